import Derived.Test.YteobjankkcdaoaaRunsB
import Derived.Test.YteobjankkcdaoaaSepG
namespace Go.Proofs.Yteobjankkcdaoaa.Sep
open Go.RowKit
set_option linter.unusedSimpArgs false
set_option linter.unusedVariables false
set_option maxHeartbeats 8000000
attribute [local irreducible] X XE XO XD XDi XDa PV RV DV pt base Spec Sl Mp Keeps

instance teq_run : TEq Try.prog 39 [.i64, .i64] := ⟨_, Try.underlying39, by kernel_rfl, by kernel_rfl, ⟨by decide, rfl, Try.underlying3, by decide, rfl, Try.underlying3, trivial⟩⟩
theorem delete_spec (b o c i m : Nat) (xs : List (Int × Int)) (hm : m = xs.length) (hi : i < xs.length) (hl : xs.length ≤ 4611686018427387904) :
    Spec Try.prog 70 [.slice (some ⟨b, o, none⟩) m c, .int .i64 i, .int .i64 (i + 1 : Int)] [Sl eRun (some ⟨b, o, none⟩) c xs]
      (fun v L => v = .slice (some ⟨b, o, none⟩) (xs.eraseIdx i).length c ∧ L = [Sl eRun (some ⟨b, o, none⟩) c (xs.eraseIdx i)]) := by
  subst hm
  refine Spec.intro (IsEnt.out) Try.func70 rfl Try.ntmps70 (by simp) (fun w0 F => ?_)
  simp only [envOf, List.zipIdx, List.map, List.cons_append, List.nil_append, Nat.zero_add, Nat.reduceAdd]
  refine X_fact (A := Sl eRun (some ⟨b, o, none⟩) c xs) .here Sl.cap (fun hc => ?_)
  have hel : (xs.eraseIdx i) = xs.take i ++ xs.drop (i + 1) := List.eraseIdx_eq_take_drop_succ ..
  have hen : (xs.take i ++ xs.drop (i + 1)).length = i + (xs.length - (i + 1)) := by simp; omega
  repeat (first | refine Zp pv_move ?_ | refine Zp pv_assign ?_ | refine Zp pv_len_slice ?_ | refine X_seq ?_ | refine X_region ?_ | refine XO_nil ?_ | refine XE_code ?_)
  refine XO_pv pv_sliceLHM (hk := ?_)
  repeat (first | refine Zp pv_move ?_ | refine Zp pv_cmp ?_ | refine X_seq ?_ | refine X_region ?_ | refine XO_nil ?_ | refine XE_code ?_)
  refine X_cond rfl (fun h => ?_) (fun h => ?_)
  · exfalso; simp at h; omega
  repeat (first | refine Zp pv_move ?_ | refine Zp pv_assign ?_ | refine Zp pv_len_slice ?_ | refine X_seq ?_ | refine X_region ?_ | refine X_skip ?_ | refine XO_nil ?_ | refine XE_code ?_)
  repeat (first | refine Dp pv_move ?_ | refine Dp pv_sliceH ?_ | refine Dp pv_sliceL ?_ | refine XD_pick (h := ?_) | refine X_draws (h := ?_))
  refine XD_one (h := ?_)
  refine XDa_dvA (dv_appendSelf (E' := eRun) (i := i) (j := i + 1) (xs := xs)) (hk := ?_)
  rintro _ _ ⟨rfl, rfl⟩
  refine ⟨by (repeat (first | exact keeps_nil | exact keeps_fnil | refine keeps_skip (h := ?_) | refine keeps_takeA (hv := by first | exact rv_load | exact rv_loadW | exact rv_loadS) (h := ?_))), ?_⟩
  repeat (fail)
  (refine XD_one (h := ?_); refine XDa_dvA (dv_of_rv (rv_of_pv pv_assign)) (hk := ?_); rintro _ _ ⟨rfl, rfl⟩; refine ⟨by (repeat (first | exact keeps_nil | exact keeps_fnil | refine keeps_skip (h := ?_) | refine keeps_takeA (hv := by first | exact rv_load | exact rv_loadW | exact rv_loadS) (h := ?_))), ?_⟩)
  (refine XD_end (h := ?_); repeat (first | refine Zp pv_move ?_ | refine Zp pv_len_slice ?_ | refine X_seq ?_ | refine X_region ?_ | refine XE_code ?_))
  have hlx : (xs.eraseIdx i).length = i + (xs.length - (i + 1)) := by rw [hel]; exact hen
  rw [← hel, ← hlx]
  refine XO_pv (pv_sliceLH (h1 := by omega) (h2 := by omega)) (hk := ?_)
  repeat (fail)
  refine XO_dv0 (dv_clear (xs := xs.eraseIdx i) (hm := by omega)) (hk := ?_)
  rintro _ _ rfl
  repeat (first | refine Zp pv_move ?_ | refine Zp pv_assign ?_ | refine X_seq ?_ | refine X_region ?_ | refine X_ret ?_ | refine XO_nil ?_ | refine XE_code ?_)
  refine XE_ret (.inl rfl) (tells_tmps rfl rfl) ⟨_, ⟨rfl, rfl⟩, by ((try simp only [List.cons_append, List.nil_append]); repeat (first | exact ent_refl | refine ent_take (by repeat (first | exact Find.here | apply Find.there)) ?_ | refine ent_drop ?_))⟩
/-- So many pages are taken: the first one, and what is left. -/
def takeAt (xs : List (Int × Int)) (n : Int) (i : Nat) : Int × List (Int × Int) :=
  ((xs.getD i (0, 0)).1, if (xs.getD i (0, 0)).2 = n then xs.eraseIdx i else xs.set i ((xs.getD i (0, 0)).1 + n, (xs.getD i (0, 0)).2 - n))
def takeI (xs : List (Int × Int)) (n : Int) : Option (Int × List (Int × Int)) := (bestU xs n xs.length).map (takeAt xs n)
def takeV (A : HP) : Option (Int × List (Int × Int)) → Value → List HP → Prop
  | none, v, L => v = .tuple #[.int .i64 0, .slice none 0 0, .bool false] ∧ L = [A]
  | some (p, ys), v, L => ∃ b c, v = .tuple #[.int .i64 p, .slice (some ⟨b, 0, none⟩) ys.length c, .bool true] ∧ L = [A, Sl eRun (some ⟨b, 0, none⟩) c ys]
theorem bestU_ge {xs : List (Int × Int)} {n : Int} : ∀ {i j : Nat}, bestU xs n i = some j → 0 < n ∧ n ≤ (xs.getD j (0, 0)).2
  | 0, j, h => by cases h
  | i + 1, j, h => by
    unfold bestU at h
    split at h
    · rename_i h1; cases h; exact ⟨h1.1, h1.2.1⟩
    · exact bestU_ge h
theorem take_spec (A : HP) (a : Option Addr) (c : Nat) (xs : List (Int × Int)) (n : Int) (hV : View A eRun a xs) (hl : xs.length ≤ 1048576) (hB : Bd xs) :
    Spec Try.prog 57 [.slice a xs.length c, .int .i64 n] [A] (takeV A (takeI xs n)) := by
  refine Spec.intro (IsEnt.out) Try.func57 rfl Try.ntmps57 (by simp) (fun w0 F => ?_)
  simp only [envOf, List.zipIdx, List.map, List.cons_append, List.nil_append, Nat.zero_add, Nat.reduceAdd]
  repeat (first | refine Zp pv_move ?_ | refine Zp pv_assign ?_ | refine X_seq ?_ | refine X_region ?_ | refine XO_nil ?_ | refine XE_code ?_)
  refine XO_call (best_spec A a c xs n hV (by omega)) (hk := ?_)
  rintro _ _ ⟨rfl, rfl⟩
  repeat (first | refine Zp pv_move ?_ | refine Zp pv_assign ?_ | refine Zp pv_cmp ?_ | refine X_seq ?_ | refine X_region ?_ | refine XO_nil ?_ | refine XE_code ?_)
  cases hb : bestU xs n xs.length with
  | none =>
    have ht : takeI xs n = none := by unfold takeI; rw [hb]; rfl
    rw [ht]
    refine X_cond rfl (fun h => ?_) (fun h => ?_)
    · repeat (first | refine Zp pv_assign ?_ | refine X_seq ?_ | refine X_region ?_ | refine X_ret ?_ | refine XO_nil ?_ | refine XE_code ?_ | refine XE_code_ret ?_)
      refine XE_ret (.inl rfl) (tells_tmps rfl rfl) ⟨_, ⟨rfl, rfl⟩, by ((try simp only [List.cons_append, List.nil_append]); repeat (first | exact ent_refl | refine ent_take (by repeat (first | exact Find.here | apply Find.there)) ?_ | refine ent_drop ?_))⟩
    · cases h
  | some i =>
    have ht : takeI xs n = some (takeAt xs n i) := by unfold takeI; rw [hb]; rfl
    rw [ht]
    have hi := bestU_lt hb
    obtain ⟨hn0, hn1⟩ := bestU_ge hb
    have hgi : xs.getD i (0, 0) = xs[i] := by simp [List.getD, hi]
    rw [hgi] at hn1
    obtain ⟨g1, g2, g3⟩ := hB xs[i] (List.getElem_mem hi)
    simp only [optI]
    refine X_cond rfl (fun h => ?_) (fun h => ?_)
    · exfalso
      have : (i : Int) < 0 := of_decide_eq_true h
      omega
    refine X_view .here hV (by omega) ?_
    rintro b o rfl
    repeat (first | refine Zp pv_move ?_ | refine Zp pv_len_slice ?_ | refine X_seq ?_ | refine X_region ?_ | refine X_skip ?_ | refine XE_code ?_)
    refine XO_dv (dv_makeSlice (E' := eRun) (0, 0)) (hk := ?_)
    rintro _ _ ⟨nb, rfl, rfl⟩
    repeat (first | refine Zp pv_move ?_ | refine Zp pv_assign ?_ | refine X_seq ?_ | refine X_region ?_ | refine XO_nil ?_ | refine XE_code ?_)
    simp only [Int.toNat_natCast]
    obtain ⟨zs, hz, hzl⟩ : ∃ zs, zs = List.replicate xs.length ((0, 0) : Int × Int) ∧ zs.length = xs.length := ⟨_, rfl, by simp⟩
    rw [← hz]
    refine XO_dv (dv_copy (E' := eRun) (ys := xs) (xs := zs) (A := A) (hx := by rw [hzl]; rfl) (hv := hV) (hn := by rw [hzl]; simp)) (hk := ?_)
    rintro _ _ ⟨rfl, rfl⟩
    rw [show xs ++ zs.drop xs.length = xs from by rw [List.drop_of_length_le (by omega), List.append_nil]]
    repeat (first | refine Zp pv_move ?_ | refine Zp pv_field ?_ | refine Zp pv_index ?_ | refine X_seq ?_ | refine X_region ?_ | refine XO_nil ?_ | refine XE_code ?_)
    refine XO_rv (rv_velf (i := i) (f := 0) (hV := hV)) (hk := ?_)
    repeat (first | refine Zp pv_move ?_ | refine Zp pv_assign ?_ | refine Zp pv_arith ?_ | refine Zp pv_field ?_ | refine Zp pv_index ?_ | refine X_seq ?_ | refine X_region ?_ | refine XO_nil ?_ | refine XE_code ?_)
    refine XO_rv (rv_velf (i := i) (f := 1) (hV := hV)) (hk := ?_)
    repeat (first | refine Zp pv_move ?_ | refine Zp pv_arith ?_ | refine Zp pv_index ?_ | refine Zp pv_build ?_)
    refine XO_dv0 (dv_putElW (E' := eRun) (i := i) (x' := (xs[i].1 + n, xs[i].2 - n))) (hk := ?_)
    rintro _ _ rfl
    repeat (first | refine X_seq ?_ | refine XO_nil ?_ | refine XE_code ?_)
    repeat (first | refine Dp pv_move ?_ | refine Dp pv_index ?_ | refine XD_pick (h := ?_) | refine X_draws (h := ?_))
    refine XDi_rvA (rv_el (E' := eRun) (i := i) (hl := by simp; omega)) (h := ?_)
    simp only [List.getElem_set_self]
    repeat (first | refine Dp pv_move ?_ | refine Dp pv_index ?_ | refine XD_pick (h := ?_))
    refine XDi_rvA (rv_vel (i := i) (hV := hV)) (h := ?_)
    repeat (fail)
    refine XD_one (h := ?_)
    refine XDa_dvA (dv_call (end_spec xs[i].1 xs[i].2 g1 g2 (by omega))) (hk := ?_)
    rintro _ _ ⟨_, ⟨rfl, rfl⟩, rfl⟩
    refine ⟨?_, ?_⟩
    · repeat (first | exact keeps_fnil | refine keeps_skip (h := ?_) | refine keeps_takeA (hv := by first | exact rv_velG (i := i) (x' := xs[i]) (hV := hV) (hget := by simp [hi]) | exact rv_elG (i := i) (x' := (xs[i].1 + n, xs[i].2 - n)) (hget := by simp [hi])) (h := ?_))
    repeat (first | refine XD_pick (h := ?_))
    refine XDi_pvA (pv_buildG [.int .i64 (xs[i].1 + xs[i].2), .int .i64 0]) (h := ?_)
    repeat (first | refine XD_pick (h := ?_))
    refine XDi_pvA (pv_eqRec [xs[i].1 + n, xs[i].2 - n] [xs[i].1 + xs[i].2, 0]) (h := ?_)
    repeat (fail)
    (refine XD_end (h := ?_); repeat (first | refine XE_code ?_))
    refine X_cond rfl (fun h => ?_) (fun h => ?_) <;> simp only [decide_eq_true_eq, decide_eq_false_iff_not] at h
    · have hq : xs[i].2 = n := by simp at h; omega
      have hta : takeAt xs n i = (xs[i].1, xs.eraseIdx i) := by unfold takeAt; rw [hgi, if_pos hq]
      have hse : (xs.set i (xs[i].1 + n, xs[i].2 - n)).eraseIdx i = xs.eraseIdx i := by
        exact List.eraseIdx_set_eq
      rw [hta]
      have hsl : (xs.set i (xs[i].1 + n, xs[i].2 - n)).length = xs.length := by simp
      repeat (first | refine Zp pv_move ?_ | refine Zp pv_arith ?_ | refine X_region ?_)
      refine XO_call (delete_spec nb 0 xs.length i xs.length (xs.set i (xs[i].1 + n, xs[i].2 - n)) (by simp) (by omega) (by omega)) (hk := ?_)
      rintro _ _ ⟨rfl, rfl⟩
      rw [hse]
      repeat (first | refine Zp pv_move ?_ | refine Zp pv_assign ?_ | refine X_seq ?_ | refine X_region ?_ | refine X_ret ?_ | refine XO_nil ?_ | refine XE_code ?_)
      refine XE_ret (.inl rfl) (tells_tmps rfl rfl) ⟨_, ⟨nb, xs.length, rfl, rfl⟩, by ((try simp only [List.cons_append, List.nil_append]); repeat (first | exact ent_refl | refine ent_take (by repeat (first | exact Find.here | apply Find.there)) ?_ | refine ent_drop ?_))⟩
    · have hq : ¬ xs[i].2 = n := fun h' => h (by simp [h'])
      have hta : takeAt xs n i = (xs[i].1, xs.set i (xs[i].1 + n, xs[i].2 - n)) := by unfold takeAt; rw [hgi, if_neg hq]
      rw [hta]
      have hsl : (xs.set i (xs[i].1 + n, xs[i].2 - n)).length = xs.length := by simp
      repeat (first | refine Zp pv_move ?_ | refine Zp pv_assign ?_ | refine X_seq ?_ | refine X_region ?_ | refine X_skip ?_ | refine X_ret ?_ | refine XO_nil ?_ | refine XE_code ?_)
      refine XE_ret (.inl rfl) (tells_tmps rfl rfl) ⟨_, ⟨nb, xs.length, by rw [hsl]; rfl, rfl⟩, by ((try simp only [List.cons_append, List.nil_append]); repeat (first | exact ent_refl | refine ent_take (by repeat (first | exact Find.here | apply Find.there)) ?_ | refine ent_drop ?_))⟩
end Go.Proofs.Yteobjankkcdaoaa.Sep
