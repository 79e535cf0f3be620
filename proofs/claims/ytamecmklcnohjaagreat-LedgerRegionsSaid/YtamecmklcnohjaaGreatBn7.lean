import Derived.Test.YtamecmklcnohjaaGreatBn6
import Derived.Test.YtamecmklcnohjaaGreatBn5
import Derived.Laws.Slices
import Derived.Test.YtamecmklcnohjaaGreatBn2
/- What the laws share: a separation logic over the model, and what the program's functions do, by it. Part 7 of 14: Sh ShInv LedDef LedA LedB SepV Cur LedC LedD SepW LedF. -/
namespace Go.Proofs.YtamecmklcnohjaaGreat.Sep
open Go.RowKit
set_option linter.unusedSimpArgs false
set_option linter.unusedVariables false
/-! what a region would use: what is computed -/
abbrev Part := Int × Int × Int × Int
structure Sh where
  parts : List Part
  larges : List (Int × Int)
  obj : Int
  pad : Int
def lastP (l : List Part) : Part := l.getD (l.length - 1) (0, 0, 0, 0)
def setLast (l : List Part) (at_ : Int) : List Part := l.set (l.length - 1) ((lastP l).1, (lastP l).2.1, at_, (lastP l).2.2.2)
def topAt (s : Sh) : Int := (lastP s.parts).2.2.1
def topEnd (s : Sh) : Int := (lastP s.parts).2.2.2
def setTop (s : Sh) (at_ obj pad : Int) : Sh := ⟨setLast s.parts at_, s.larges, obj, pad⟩
theorem setLast_length (l : List Part) (a : Int) : (setLast l a).length = l.length := by simp [setLast]
theorem setLast_self (l : List Part) : setLast l (lastP l).2.2.1 = l := by
  unfold setLast
  cases l with
  | nil => rfl
  | cons x l =>
    have hl : (x :: l).length - 1 < (x :: l).length := by simp
    have : lastP (x :: l) = (x :: l)[(x :: l).length - 1] := by unfold lastP; simp only [List.getD, List.getElem?_eq_getElem hl, Option.getD_some]
    rw [show ((lastP (x :: l)).1, (lastP (x :: l)).2.1, (lastP (x :: l)).2.2.1, (lastP (x :: l)).2.2.2) = lastP (x :: l) from rfl, this]
    exact List.set_getElem_self hl
def fitsS (s : Sh) (mc ml at_ : Int) : Bool :=
  if mc < 0 ∨ (s.parts.length : Int) < mc ∨ ml < 0 ∨ (s.larges.length : Int) < ml then false
  else if mc = 0 then at_ == 0
  else decide ((ofI (s.parts.getD (mc.toNat - 1) (0, 0, 0, 0)).1 (s.parts.getD (mc.toNat - 1) (0, 0, 0, 0)).2.1).1 ≤ at_) && decide (at_ ≤ (s.parts.getD (mc.toNat - 1) (0, 0, 0, 0)).2.2.1)
def emptySh : Sh := ⟨[], [], 0, 0⟩
structure ShOk (s : Sh) : Prop where
  parts : ∀ p ∈ s.parts, 0 ≤ p.1 ∧ p.1 ≤ 1048576 ∧ 0 ≤ p.2.1 ∧ p.2.1 ≤ 1048576 ∧ 0 ≤ p.2.2.1 ∧ p.2.2.1 ≤ 18446744073709551615 ∧ 0 ≤ p.2.2.2 ∧ p.2.2.2 ≤ 18446744073709551615
  larges : ∀ r ∈ s.larges, 0 ≤ r.1 ∧ r.1 ≤ 1048576 ∧ 0 ≤ r.2 ∧ r.2 ≤ 1048576
  obj : 0 ≤ s.obj ∧ s.obj ≤ 18446744073709551615
  pad : 0 ≤ s.pad ∧ s.pad ≤ 18446744073709551615
theorem last_mem {l : List Part} (h : l ≠ []) : lastP l ∈ l := by
  have hp : 0 < l.length := List.length_pos_iff.2 h
  have hl : l.length - 1 < l.length := by omega
  have : lastP l = l[l.length - 1] := by unfold lastP; simp only [List.getD, List.getElem?_eq_getElem hl, Option.getD_some]
  rw [this]; exact List.getElem_mem hl
theorem top_bd {s : Sh} (h : ShOk s) : 0 ≤ topAt s ∧ topAt s ≤ 18446744073709551615 ∧ 0 ≤ topEnd s ∧ topEnd s ≤ 18446744073709551615 := by
  unfold topAt topEnd
  by_cases h0 : s.parts = []
  · rw [h0]; simp [lastP]
  · have := h.parts _ (last_mem h0); omega
theorem setTop_self (s : Sh) : setTop s (topAt s) s.obj s.pad = s := by
  unfold setTop topAt
  rw [setLast_self]
theorem ofI_bd (p n : Int) : 0 ≤ (ofI p n).1 ∧ (ofI p n).1 ≤ 18446744073709551615 ∧ 0 ≤ (ofI p n).2 ∧ (ofI p n).2 ≤ 18446744073709551615 := by
  unfold ofI
  split
  · rename_i h; refine ⟨?_, ?_, ?_, ?_⟩ <;> dsimp only <;> omega
  · exact ⟨by decide, by decide, by decide, by decide⟩
def uw (x : Int) : Int := IntKind.u64.wrap x
theorem uw_bd (x : Int) : 0 ≤ uw x ∧ uw x ≤ 18446744073709551615 := by
  unfold uw; rw [wrap_u64_eq]; omega
def madeS (s : Sh) (size align : Int) : Option Sh := (fitI (topAt s) (topEnd s) size align).map fun q => setTop s q.2.1 (IntKind.u64.wrap (s.obj + size)) (IntKind.u64.wrap (s.pad + q.2.2))
def bigS (s : Sh) (r : Int × Int) (size : Int) : Option (Int × Int × Int) → Sh
  | none => ⟨s.parts, s.larges ++ [r], s.obj, s.pad⟩
  | some q => ⟨s.parts, s.larges ++ [r], IntKind.u64.wrap (s.obj + size), IntKind.u64.wrap (s.pad + q.2.2)⟩
def partS (s : Sh) (r cur : Int × Int) : Sh := ⟨s.parts ++ [(r.1, r.2, cur.1, cur.2)], s.larges, s.obj, s.pad⟩
def growS (C : Co) (s : Sh) (size align : Int) (n : Int) (big : Bool) : (Co × Sh) × Int :=
  if (getC C n).2.2 = 0 then
    (if big = true then (((getC C n).1, bigS s ((getC C n).2.1, n) size (fitI (ofI (getC C n).2.1 n).1 (ofI (getC C n).2.1 n).2 size align)), 0)
      else (((getC C n).1, (madeS (partS s ((getC C n).2.1, n) (ofI (getC C n).2.1 n)) size align).getD (partS s ((getC C n).2.1, n) (ofI (getC C n).2.1 n))), 0))
  else (((getC C n).1, s), (getC C n).2.2)
def allocS (C : Co) (s : Sh) (size align : Int) : (Co × Sh) × Int :=
  if size = 0 ∨ (needI 1 align).isSome = false then ((C, s), 1) else match madeS s size align with
  | some s' => ((C, s'), 0)
  | none => if (chunkI size align).2.2 = false then ((C, s), 4) else growS C s size align (chunkI size align).1 (chunkI size align).2.1
theorem lastP_append (l : List Part) (x : Part) : lastP (l ++ [x]) = x := by simp [lastP, List.getD]
def runP (p : Part) : Int × Int := (p.1, p.2.1)
def cutS (s : Sh) (mc ml : Int) : Sh := ⟨s.parts.take mc.toNat, s.larges.take ml.toNat, s.obj, s.pad⟩
def putsC (C : Co) (s : Sh) (mc ml : Int) : Co := (((s.parts.map runP).drop mc.toNat).reverse).foldl putC (((s.larges.drop ml.toNat).reverse).foldl putC C)
def rewS (C : Co) (s : Sh) (mc ml at_ ob pd : Int) : Option (Co × Sh) :=
  if fitsS s mc ml at_ = true then some (putsC C s mc ml, if [mc, ml, at_, ob, pd] = [0, 0, 0, 0, 0] then emptySh else setTop (cutS s mc ml) at_ ob pd) else none
theorem puts_ok {l : List (Int × Int)} (hl : ∀ r ∈ l, r.1 ≤ 1048576) : ∀ {C : Co}, CoOk C → CoOk (l.foldl putC C) := by
  induction l with
  | nil => exact fun h => h
  | cons r l ih => exact fun h => ih (fun q hq => hl q (by simp [hq])) (putC_ok h (hl r (by simp)))
theorem puts_step {l : List (Int × Int)} {k : Nat} (hk : k < l.length) (C : Co) : ((l.drop k).reverse).foldl putC C = putC (((l.drop (k + 1)).reverse).foldl putC C) l[k] := by
  rw [List.drop_eq_getElem_cons hk, List.reverse_cons, List.foldl_append]; rfl
instance teq_mark : TEq Tryz.prog 36 [.i64, .i64, .u64, .u64, .u64] := ⟨_, Tryz.underlying36, by kernel_rfl, by kernel_rfl, ⟨by decide, rfl, Tryz.underlying3, by decide, rfl, Tryz.underlying3, by decide, rfl, Tryz.underlying32, by decide, rfl, Tryz.underlying32, by decide, rfl, Tryz.underlying32, trivial⟩⟩
def shPages (s : Sh) : Int := totI (s.parts.map runP) + totI s.larges
def shHdr (s : Sh) : Int := 32 * ((s.parts.length : Int) + (s.larges.length : Int))
theorem wrap_add (x y : Int) : IntKind.u64.wrap (IntKind.u64.wrap x + y) = IntKind.u64.wrap (x + y) := by
  simp only [wrap_u64_eq]; omega
theorem tot_bd {l : List (Int × Int)} (h : ∀ r ∈ l, 0 ≤ r.2 ∧ r.2 ≤ 1048576) : 0 ≤ totI l ∧ totI l ≤ 1048576 * l.length := by
  induction l with
  | nil => simp [totI]
  | cons r l ih =>
    have h1 := h r (by simp)
    have h2 := ih fun q hq => h q (by simp [hq])
    rw [tot_cons]; simp; omega
structure ShB (s : Sh) : Prop where
  ok : ShOk s
  lp : s.parts.length ≤ 1048576
  ll : s.larges.length ≤ 1048576
theorem run_bd {s : Sh} (h : ShB s) : ∀ r ∈ s.parts.map runP, 0 ≤ r.2 ∧ r.2 ≤ 1048576 := fun r hr => by
  obtain ⟨p, hp, rfl⟩ := List.mem_map.1 hr
  have := h.ok.parts p hp
  exact ⟨this.2.2.1, this.2.2.2.1⟩
theorem shPages_bd {s : Sh} (h : ShB s) : 0 ≤ shPages s ∧ shPages s ≤ 2199023255552 := by
  have h1 := tot_bd (run_bd h)
  have h2 := tot_bd (l := s.larges) (fun r hr => (h.ok.larges r hr).2.2)
  have h3 := h.lp
  have h4 := h.ll
  unfold shPages
  simp at h1
  omega
def mKs : List IntKind := [.i64, .i64, .i64, .i64, .u64, .u64, .u64, .u64]
instance teq_meter : TEq Tryz.prog 51 [.i64, .i64, .i64, .i64, .u64, .u64, .u64, .u64] := ⟨_, Tryz.underlying51, by kernel_rfl, by kernel_rfl, ⟨by decide, rfl, Tryz.underlying3, by decide, rfl, Tryz.underlying3, by decide, rfl, Tryz.underlying3, by decide, rfl, Tryz.underlying3, by decide, rfl, Tryz.underlying32, by decide, rfl, Tryz.underlying32, by decide, rfl, Tryz.underlying32, by decide, rfl, Tryz.underlying32, trivial⟩⟩
theorem tot_right {P : Int} : ∀ {l : List (Int × Int)} {lo : Int}, lo ≤ P + 1 → RightFrom P lo l → 0 ≤ totI l ∧ totI l ≤ P + 1 - lo
  | [], lo, h, _ => by simp [totI]; omega
  | r :: l, lo, h, ⟨h1, h2, h3, h4⟩ => by
    have := tot_right (by omega) h4
    rw [tot_cons]; omega
end Go.Proofs.YtamecmklcnohjaaGreat.Sep
namespace Go.Proofs.YtamecmklcnohjaaGreat.Sep
open Go.RowKit
set_option linter.unusedSimpArgs false
set_option linter.unusedVariables false
/-! what a region uses, and what is free or kept -/
theorem chunk_n {size align n : Int} {big : Bool} (h0 : 0 ≤ size) (h2 : 0 ≤ align) (h : chunkI size align = (n, big, true)) : 1 ≤ n ∧ (0 ≤ cclass n → cpages (cclass n) = n) ∧ n ≤ 1048576 := by
  unfold chunkI at h
  cases hn : needI size align with
  | none => rw [hn] at h; cases h
  | some m =>
    rw [hn] at h
    have hm := need_le h0 h2 hn
    simp only at h
    split at h
    · cases h
    · split at h
      · rename_i h3 h4
        injection h with h5 h6
        subst h5
        refine ⟨by omega, fun hc => ?_, by omega⟩
        exfalso
        have : cclass m = -1 := by
          unfold cclass
          repeat' split
          all_goals omega
        omega
      · rename_i h3 h4
        injection h with h5 h6
        subst h5
        obtain ⟨a1, a2⟩ := class_self (m := m) (by omega) (by omega)
        refine ⟨a1, fun _ => a2, ?_⟩
        unfold cpages
        split
        · rename_i hq
          have : (cclass m).toNat ≤ 6 := by omega
          have : 2 ^ (cclass m).toNat ≤ 2 ^ 6 := Nat.pow_le_pow_right (by decide) this
          omega
        · omega
structure PInv (P : Int) (s : Sh) : Prop where
  parts : ∀ r ∈ s.parts.map runP, RunOk P r
  larges : ∀ r ∈ s.larges, RunOk P r
def cS (x : Int) (s : Sh) : Int := cnt x (s.parts.map runP) + cnt x s.larges
theorem cS_nn (x : Int) (s : Sh) : 0 ≤ cS x s := by have := cnt_nn x (s.parts.map runP); have := cnt_nn x s.larges; unfold cS; omega
theorem setLast_runP (l : List Part) (a : Int) : (setLast l a).map runP = l.map runP := by
  unfold setLast
  rw [List.map_set]
  cases l with
  | nil => rfl
  | cons x l =>
    have hl : (x :: l).length - 1 < (x :: l).length := by simp
    have h1 : lastP (x :: l) = (x :: l)[(x :: l).length - 1] := by unfold lastP; simp only [List.getD, List.getElem?_eq_getElem hl, Option.getD_some]
    have h2 : runP ((lastP (x :: l)).1, (lastP (x :: l)).2.1, a, (lastP (x :: l)).2.2.2) = ((x :: l).map runP)[(x :: l).length - 1]'(by simp) := by
      rw [List.getElem_map, ← h1]; rfl
    rw [h2, List.set_getElem_self]
/-- One region's shadow is right. -/
structure SInv (P : Int) (B : Nat) (s : Sh) : Prop where
  ok : ShOk s
  pi : PInv P s
  lp : s.parts.length ≤ B
  ll : s.larges.length ≤ B
theorem setTop_inv {P : Int} {B : Nat} {s : Sh} (h : SInv P B s) {a o p : Int} (ha : 0 ≤ a ∧ a ≤ 18446744073709551615) (ho : 0 ≤ o ∧ o ≤ 18446744073709551615) (hp : 0 ≤ p ∧ p ≤ 18446744073709551615) :
    SInv P B (setTop s a o p) ∧ (∀ x, cS x (setTop s a o p) = cS x s) ∧ shPages (setTop s a o p) = shPages s := by
  refine ⟨⟨⟨fun q hq => ?_, h.ok.larges, ho, hp⟩, ⟨?_, h.pi.larges⟩, ?_, h.ll⟩, fun x => ?_, ?_⟩
  · have hq : q ∈ setLast s.parts a := hq
    unfold setLast at hq
    rcases List.mem_or_eq_of_mem_set hq with hq | rfl
    · exact h.ok.parts q hq
    · have hne : s.parts ≠ [] := by rintro h0; rw [h0] at hq; simp at hq
      have := h.ok.parts _ (last_mem hne)
      dsimp only
      omega
  · show ∀ r ∈ (setLast s.parts a).map runP, _
    rw [setLast_runP]; exact h.pi.parts
  · show (setLast s.parts a).length ≤ B
    rw [setLast_length]; exact h.lp
  · show cnt x ((setLast s.parts a).map runP) + _ = _
    rw [setLast_runP]; rfl
  · show totI ((setLast s.parts a).map runP) + _ = _
    rw [setLast_runP]; rfl
theorem fit_bd {at_ en size align : Int} {q : Int × Int × Int} (h0 : 0 ≤ at_) (h2 : 0 ≤ align) (hs : 0 ≤ size) (h : fitI at_ en size align = some q) : at_ ≤ q.2.1 ∧ q.2.1 ≤ en := by
  unfold fitI at h
  cases hu : upI at_ align with
  | none => rw [hu] at h; cases h
  | some s =>
    rw [hu, Option.bind_some] at h
    cases ha : addI s size with
    | none => rw [ha] at h; cases h
    | some e2 =>
      rw [ha, Option.bind_some] at h
      split at h
      · cases h
      · rename_i hc
        cases h
        have := upI_le h0 h2 hu
        have := add_le ha
        dsimp only
        omega
theorem made_inv {P : Int} {B : Nat} {s s' : Sh} {size align : Int} (h : SInv P B s) (hs : 0 ≤ size) (h2 : 0 ≤ align) (hm : madeS s size align = some s') :
    SInv P B s' ∧ (∀ x, cS x s' = cS x s) ∧ shPages s' = shPages s := by
  unfold madeS at hm
  cases hf : fitI (topAt s) (topEnd s) size align with
  | none => rw [hf] at hm; cases hm
  | some q =>
    rw [hf, Option.map_some, Option.some.injEq] at hm
    subst hm
    have ht := top_bd h.ok
    have hq := fit_bd ht.1 h2 hs hf
    exact setTop_inv h (by omega) (uw_bd _) (uw_bd _)
theorem part_inv {P : Int} {B : Nat} {s : Sh} {r cur : Int × Int} (hP : P ≤ 1048576) (h : SInv P B s) (hr : RunOk P r) (hc : 0 ≤ cur.1 ∧ cur.1 ≤ 18446744073709551615 ∧ 0 ≤ cur.2 ∧ cur.2 ≤ 18446744073709551615) :
    SInv P (B + 1) (partS s r cur) ∧ (∀ x, cS x (partS s r cur) = cS x s + ind x r) ∧ shPages (partS s r cur) = shPages s + r.2 := by
  have hr' := hr
  obtain ⟨r1, r2, r3⟩ := hr'
  have hmap : (partS s r cur).parts.map runP = s.parts.map runP ++ [r] := by unfold partS; rw [List.map_append]; rfl
  refine ⟨⟨⟨fun q hq => ?_, h.ok.larges, h.ok.obj, h.ok.pad⟩, ⟨?_, h.pi.larges⟩, ?_, by have := h.ll; show s.larges.length ≤ _; omega⟩, fun x => ?_, ?_⟩
  · rcases List.mem_append.1 hq with hq | hq
    · exact h.ok.parts q hq
    · simp at hq; subst hq; dsimp only; omega
  · rw [hmap]
    intro q hq
    rcases List.mem_append.1 hq with hq | hq
    · exact h.pi.parts q hq
    · simp at hq; subst hq; exact hr
  · have := h.lp
    show (s.parts ++ [_]).length ≤ _
    simp; omega
  · show cnt x ((partS s r cur).parts.map runP) + cnt x s.larges = cnt x (s.parts.map runP) + cnt x s.larges + ind x r
    rw [hmap, cnt_append]; simp only [cnt]; omega
  · show totI ((partS s r cur).parts.map runP) + totI s.larges = totI (s.parts.map runP) + totI s.larges + r.2
    rw [hmap, tot_append]; simp [totI]; omega
theorem big_inv {P : Int} {B : Nat} {s : Sh} {r : Int × Int} {size : Int} (f : Option (Int × Int × Int)) (hP : P ≤ 1048576) (h : SInv P B s) (hr : RunOk P r) :
    SInv P (B + 1) (bigS s r size f) ∧ (∀ x, cS x (bigS s r size f) = cS x s + ind x r) ∧ shPages (bigS s r size f) = shPages s + r.2 := by
  have hr' := hr
  obtain ⟨r1, r2, r3⟩ := hr'
  have hp : (bigS s r size f).parts = s.parts := by cases f <;> rfl
  have hl : (bigS s r size f).larges = s.larges ++ [r] := by cases f <;> rfl
  have ho : 0 ≤ (bigS s r size f).obj ∧ (bigS s r size f).obj ≤ 18446744073709551615 := by
    cases f with
    | none => exact h.ok.obj
    | some q => exact uw_bd _
  have hd : 0 ≤ (bigS s r size f).pad ∧ (bigS s r size f).pad ≤ 18446744073709551615 := by
    cases f with
    | none => exact h.ok.pad
    | some q => exact uw_bd _
  refine ⟨⟨⟨by rw [hp]; exact h.ok.parts, ?_, ho, hd⟩, ⟨by rw [hp]; exact h.pi.parts, ?_⟩, by rw [hp]; have := h.lp; omega, by rw [hl]; have := h.ll; simp; omega⟩, fun x => ?_, ?_⟩
  · rw [hl]
    intro q hq
    rcases List.mem_append.1 hq with hq | hq
    · exact h.ok.larges q hq
    · simp at hq; subst hq; omega
  · rw [hl]
    intro q hq
    rcases List.mem_append.1 hq with hq | hq
    · exact h.pi.larges q hq
    · simp at hq; subst hq; exact hr
  · unfold cS; rw [hp, hl, cnt_append]; simp only [cnt]; omega
  · unfold shPages; rw [hp, hl, tot_append]; simp [totI]; omega
theorem SInv.up {P : Int} {B : Nat} {s : Sh} (h : SInv P B s) : SInv P (B + 1) s := ⟨h.ok, h.pi, by have := h.lp; omega, by have := h.ll; omega⟩
/-- What is made in a region: no page is lost, none is won. -/
theorem alloc_inv {C : Co} {B : Nat} {s : Sh} {size align : Int} (hC : CInv C) (hs : SInv C.P B s) (hd : ∀ x, cC x C + cS x s ≤ 1) (h0 : 0 ≤ size) (h2 : 0 ≤ align) :
    CInv (allocS C s size align).1.1 ∧ (allocS C s size align).1.1.P = C.P ∧ SInv C.P (B + 1) (allocS C s size align).1.2 ∧ (∀ x, cC x (allocS C s size align).1.1 + cS x (allocS C s size align).1.2 = cC x C + cS x s) ∧
      tC (allocS C s size align).1.1 + shPages (allocS C s size align).1.2 = tC C + shPages s := by
  have hP := hC.ok.p2
  unfold allocS
  split
  · exact ⟨hC, rfl, hs.up, fun _ => rfl, rfl⟩
  · cases hm : madeS s size align with
    | some s' =>
      obtain ⟨g1, g2, g3⟩ := made_inv hs h0 h2 hm
      exact ⟨hC, rfl, g1.up, fun x => by dsimp only; rw [g2 x], by dsimp only; rw [g3]⟩
    | none =>
      dsimp only
      split
      · exact ⟨hC, rfl, hs.up, fun _ => rfl, rfl⟩
      · rename_i hok
        obtain ⟨n, big, ok, hch⟩ : ∃ n big ok, chunkI size align = (n, big, ok) := ⟨_, _, _, rfl⟩
        rw [hch] at hok ⊢
        have hok : ok = true := by simpa using hok
        subst hok
        obtain ⟨c1, c2, c3⟩ := chunk_n h0 h2 hch
        obtain ⟨g1, g2, g3, g4⟩ := get_inv (n := n) hC (fun x => by have := hd x; have := cS_nn x s; omega) c1 c2
        dsimp only
        unfold growS
        split
        · rename_i he
          obtain ⟨a1, a2, a3⟩ := g3 he
          have hob := ofI_bd (getC C n).2.1 n
          split
          · obtain ⟨b1, b2, b3⟩ := big_inv (size := size) (fitI (ofI (getC C n).2.1 n).1 (ofI (getC C n).2.1 n).2 size align) hP hs a1
            refine ⟨g1, g2, b1, fun x => ?_, ?_⟩
            · dsimp only; rw [b2 x, a2 x]; omega
            · dsimp only; rw [b3, a3]; dsimp only; omega
          · obtain ⟨b1, b2, b3⟩ := part_inv hP hs a1 hob
            cases hm2 : madeS (partS s ((getC C n).2.1, n) (ofI (getC C n).2.1 n)) size align with
            | none =>
              refine ⟨g1, g2, b1, fun x => ?_, ?_⟩
              · dsimp only [Option.getD_none]; rw [b2 x, a2 x]; omega
              · dsimp only [Option.getD_none]; rw [b3, a3]; dsimp only; omega
            | some s2 =>
              obtain ⟨d1, d2, d3⟩ := made_inv b1 h0 h2 hm2
              refine ⟨g1, g2, d1, fun x => ?_, ?_⟩
              · dsimp only [Option.getD_some]; rw [d2 x, b2 x, a2 x]; omega
              · dsimp only [Option.getD_some]; rw [d3, b3, a3]; dsimp only; omega
        · rename_i he
          obtain ⟨a1, a2⟩ := g4 he
          exact ⟨g1, g2, hs.up, fun x => by dsimp only; rw [a1 x], by dsimp only; rw [a2]⟩
/-- A region ends: all that it has is given back. -/
theorem ends_inv {C : Co} {B : Nat} {s : Sh} (hC : CInv C) (hs : SInv C.P B s) (hd : ∀ x, cC x C + cS x s ≤ 1) :
    CInv (putsC C s 0 0) ∧ (putsC C s 0 0).P = C.P ∧ (∀ x, cC x (putsC C s 0 0) = cC x C + cS x s) ∧ tC (putsC C s 0 0) = tC C + shPages s := by
  have hrev : ∀ (x : Int) (l : List (Int × Int)), cnt x l.reverse = cnt x l := fun x l => by
    induction l with
    | nil => rfl
    | cons r l ih => rw [List.reverse_cons, cnt_append, ih]; simp only [cnt]; omega
  have hrevt : ∀ (l : List (Int × Int)), totI l.reverse = totI l := fun l => by
    induction l with
    | nil => rfl
    | cons r l ih => rw [List.reverse_cons, tot_append, ih, tot_cons, tot_cons]; simp [totI]; omega
  unfold putsC
  simp only [Int.toNat_zero, List.drop_zero]
  obtain ⟨g1, g2, g3, g4⟩ := puts_inv s.larges.reverse hC (fun r hr => hs.pi.larges r (List.mem_reverse.1 hr)) (fun x => by rw [hrev]; have := hd x; have := cnt_nn x (s.parts.map runP); unfold cS at *; omega)
  obtain ⟨k1, k2, k3, k4⟩ := puts_inv (s.parts.map runP).reverse g1 (fun r hr => by rw [g2]; exact hs.pi.parts r (List.mem_reverse.1 hr)) (fun x => by rw [g3 x, hrev, hrev]; have := hd x; unfold cS at *; omega)
  refine ⟨k1, k2.trans g2, fun x => ?_, ?_⟩
  · rw [k3 x, g3 x, hrev, hrev]; unfold cS; omega
  · rw [k4, g4, hrevt, hrevt]; unfold shPages; omega
end Go.Proofs.YtamecmklcnohjaaGreat.Sep
namespace Go.Proofs.YtamecmklcnohjaaGreat.Sep
open Go.RowKit
set_option linter.unusedSimpArgs false
set_option linter.unusedVariables false
/-! the ledger's block -/
/-- The ledger's block, with its pages and what is kept. -/
def Core (l mb : Nat) (C : Co) : HP := fun H => ∃ x : Nat × Nat × Int, SL [pt l (.cells [.pointer (some ⟨x.1, 0, none⟩), .pointer (some ⟨x.2.1, 0, none⟩), .map (some mb)].toArray 105 (0, 0)), Pg x.1 C.P C.fr x.2.2, Kc x.2.1 C.ks] H
theorem Core.open {l mb : Nat} {C : Co} : ∀ H, Core l mb C H → ∃ x : Nat × Nat × Int, True ∧ SL [pt l (.cells [.pointer (some ⟨x.1, 0, none⟩), .pointer (some ⟨x.2.1, 0, none⟩), .map (some mb)].toArray 105 (0, 0)), Pg x.1 C.P C.fr x.2.2, Kc x.2.1 C.ks] H := fun H ⟨x, h⟩ => ⟨x, trivial, h⟩
theorem Core.fold {l mb pb kb : Nat} {t : Int} {C : Co} : ∀ H, SL [pt l (.cells [.pointer (some ⟨pb, 0, none⟩), .pointer (some ⟨kb, 0, none⟩), .map (some mb)].toArray 105 (0, 0)), Pg pb C.P C.fr t, Kc kb C.ks] H → Core l mb C H := fun H h => ⟨(pb, kb, t), h⟩
end Go.Proofs.YtamecmklcnohjaaGreat.Sep
namespace Go.Proofs.YtamecmklcnohjaaGreat.Sep
open Go.RowKit
set_option linter.unusedSimpArgs false
set_option linter.unusedVariables false
/-- A region's number, and where its shadow lies. -/
def idE (n : Int) : Value := .int .u64 n
def ptV (b : Option Nat) : Value := .pointer (b.map fun b => ⟨b, 0, none⟩)
set_option maxHeartbeats 8000000
attribute [local irreducible] X XE XO XD XDi XDa PV RV DV pt base Spec Sl Mp Keeps Pg Kc

instance tk_id : TK Tryz.prog 32 idE := tk_int
theorem trim_spec (l mb : Nat) (C : Co) (h : CoOk C) : Spec Tryz.prog 24 [.pointer (some ⟨l, 0, none⟩)] [Core l mb C] (fun v L => v = .int .i64 (trimN C) ∧ L = [Core l mb (trimC C)]) := by
  refine Spec.intro (IsEnt.out) Tryz.func24 rfl Tryz.ntmps24 (by simp) (fun w0 F => ?_)
  simp only [envOf, List.zipIdx, List.map, List.cons_append, List.nil_append, Nat.zero_add, Nat.reduceAdd]
  repeat (first | refine Zq ?_ | refine Zs ?_ | refine ZT ?_ | refine ZF ?_ | refine Zc ?_ | refine XO_gU (hk := ?_))
  refine X_cond rfl (fun h => by cases h) (fun _ => ?_)
  refine X_open .here Core.open ?_
  rintro ⟨pb, kb, t⟩ -
  dsimp only [List.cons_append, List.nil_append]
  have hkl := kall_le (fun k hk => (h.kept k hk).1) 7 (Nat.le_refl _)
  repeat (first | refine Zq ?_ | refine Zs ?_ | refine ZT ?_ | refine ZF ?_ | refine Zc ?_ | refine XO_gU (hk := ?_))
  refine XO_call (call_spec kb C.ks) (hk := ?_)
  rintro _ _ ⟨a, c, rfl, rfl⟩
  repeat (first | refine Zq ?_ | refine Zs ?_ | refine ZT ?_ | refine ZF ?_ | refine Zc ?_ | refine XO_gU (hk := ?_))
  refine X_loop (ι := Nat × Int) (fun q => q.1 ≤ (kall C.ks 7).length) (fun q => [(0, .pointer (some ⟨l, 0, none⟩)), (12, .slice a (kall C.ks 7).length c), (13, .int .i64 ((kall C.ks 7).length : Int)), (14, .int .i64 (q.1 : Int)), (3, .int .i64 (totI ((kall C.ks 7).take q.1)))])
    (fun q => pt l (.cells [.pointer (some ⟨pb, 0, none⟩), .pointer (some ⟨kb, 0, none⟩), .map (some mb)].toArray 105 (0, 0)) :: Pg pb (((kall C.ks 7).take q.1).foldl giveC C).P (((kall C.ks 7).take q.1).foldl giveC C).fr q.2 :: Kc kb C.ks :: Sl eRun a c (kall C.ks 7) :: F) (fun q => (kall C.ks 7).length - q.1) (0, t) (Nat.zero_le _) ?_ (by ((try simp only [List.cons_append, List.nil_append]); repeat (first | exact ent_refl | refine ent_take (by repeat (first | exact Find.here | apply Find.there)) ?_ | refine ent_drop ?_))) ?_
  · (repeat (first | exact Env.sub_nil _ | refine Env.sub_cons rfl ?_))
  rintro ⟨k, t2⟩ hk
  dsimp only at hk ⊢
  repeat (first | refine Zq ?_ | refine Zs ?_ | refine ZT ?_ | refine ZF ?_ | refine Zc ?_ | refine XO_gU (hk := ?_))
  refine X_cond rfl (fun hc => ?_) (fun hc => ?_) <;> simp only [decide_eq_true_eq, decide_eq_false_iff_not] at hc
  · have hkl2 : k < (kall C.ks 7).length := by omega
    have hD := fold_ok ((kall C.ks 7).take k) h
    have hr := kall_bd h (List.getElem_mem hkl2)
    have htk : (kall C.ks 7).take (k + 1) = (kall C.ks 7).take k ++ [(kall C.ks 7)[k]] := List.take_succ_eq_append_getElem hkl2
    have hs : totI ((kall C.ks 7).take (k + 1)) = totI ((kall C.ks 7).take k) + (kall C.ks 7)[k].2 := by
      rw [htk, tot_append]; simp [totI]
    have hb1 := tot_le (l := (kall C.ks 7).take k) (fun r hr => (kall_bd h (List.mem_of_mem_take hr)).2.2)
    have hb2 : ((kall C.ks 7).take k).length ≤ 28 := by simp; omega
    have hfo : ((kall C.ks 7).take (k + 1)).foldl giveC C = giveC (((kall C.ks 7).take k).foldl giveC C) (kall C.ks 7)[k] := by rw [htk, List.foldl_append]; rfl
    refine X_slopen (E' := eRun) (a := a) (c := c) (xs := kall C.ks 7) (by (repeat (first | exact Find.here | apply Find.there))) (by omega) ?_
    rintro b o rfl
    repeat (first | refine Zq ?_ | refine Zs ?_ | refine ZT ?_ | refine ZF ?_ | refine Zc ?_ | refine XO_gU (hk := ?_))
    refine XO_rv (rv_elG (E' := eRun) (i := k) (x' := (kall C.ks 7)[k]) (hget := by simp [hkl2])) (hk := ?_)
    repeat (first | refine Zq ?_ | refine Zs ?_ | refine ZT ?_ | refine ZF ?_ | refine Zc ?_ | refine XO_gU (hk := ?_))
    (refine XO_dv dv_alloc (hk := ?_); rintro _ _ ⟨cb, rfl, rfl⟩; (repeat (first | refine Zq ?_ | refine Zs ?_ | refine ZT ?_ | refine ZF ?_ | refine Zc ?_ | refine XO_gU (hk := ?_))); refine XO_dv0 dv_storeW (hk := ?_); rintro _ _ rfl; (repeat (first | refine Zq ?_ | refine Zs ?_ | refine ZT ?_ | refine ZF ?_ | refine Zc ?_ | refine XO_gU (hk := ?_))))
    repeat (first | refine XD_pick (h := ?_) | refine Dq ?_ | refine Ds ?_ | refine XDi_gF (h := ?_) | refine XDi_gU (h := ?_) | refine X_draws (h := ?_))
    refine XD_one (h := ?_)
    refine XDa_dvA (dv_call (pgive_spec pb _ t2 (kall C.ks 7)[k].1 (kall C.ks 7)[k].2 _ (rf_len' (by have := hD.p1; omega) hD.p2 hD.right) (rf_bd hD.p2 hD.right) (by have := hD.p1; omega) hD.p2 (by omega) (by omega) (by omega) (by omega))) (hk := ?_)
    rintro v _ ⟨L', hpost, rfl⟩
    obtain ⟨w', t', rfl, rfl⟩ := give_step hpost
    refine ⟨by (repeat (first | exact keeps_nil | exact keeps_fnil | refine keeps_skip (h := ?_) | refine keeps_takeQ (h := ?_))), ?_⟩
    (refine XD_end (h := ?_); repeat (first | refine Zq ?_ | refine Zs ?_ | refine ZT ?_ | refine ZF ?_ | refine Zc ?_ | refine XO_gU (hk := ?_)))
    refine X_round (k + 1, t') (by show k + 1 ≤ _; omega) (by show (kall C.ks 7).length - (k + 1) < (kall C.ks 7).length - k; omega) (by rw [hs]; (repeat (first | exact Env.sub_nil _ | refine Env.sub_cons rfl ?_))) ?_
    rw [hfo]
    ((try simp only [List.cons_append, List.nil_append]); repeat (first | exact ent_refl | refine ent_take (by repeat (first | exact Find.here | apply Find.there)) ?_ | refine ent_drop ?_))
  · obtain rfl : k = (kall C.ks 7).length := by omega
    rw [List.take_length]
    repeat (first | refine Zq ?_ | refine Zs ?_ | refine ZT ?_ | refine ZF ?_ | refine Zc ?_ | refine XO_gU (hk := ?_))
    refine XO_call (cclear_spec kb C.ks) (hk := ?_)
    rintro _ _ ⟨rfl, rfl⟩
    repeat (first | refine Zq ?_ | refine Zs ?_ | refine ZT ?_ | refine ZF ?_ | refine Zc ?_ | refine XO_gU (hk := ?_))
    refine XE_ret (.inl rfl) (tells_tmps rfl rfl) ⟨_, ⟨rfl, rfl⟩, ?_⟩
    (try simp only [List.cons_append, List.nil_append])
    rw [(fold_P (kall C.ks 7) C).1]
    refine ent_fold (by repeat (first | exact FindAll.nil | exact Find.here | apply Find.there | apply FindAll.cons)) (Core.fold (C := trimC C)) ?_
    ((try simp only [List.cons_append, List.nil_append]); repeat (first | exact ent_refl | refine ent_take (by repeat (first | exact Find.here | apply Find.there)) ?_ | refine ent_drop ?_))
theorem lnew_spec (p : Int) : Spec Tryz.prog 14 [.int .i64 p] [] (fun v L => ∃ l mb, v = .pointer (some ⟨l, 0, none⟩) ∧ L = [Core l mb ⟨min (max p 1) 1048576, [(0, min (max p 1) 1048576)], fun _ => [], 0⟩, Mp idE ptV mb []]) := by
  refine Spec.intro (IsEnt.out) Tryz.func14 rfl Tryz.ntmps14 (by simp) (fun w0 F => ?_)
  simp only [envOf, List.zipIdx, List.map, List.cons_append, List.nil_append, Nat.zero_add, Nat.reduceAdd]
  repeat (first | refine Zq ?_ | refine Zs ?_ | refine ZT ?_ | refine ZF ?_ | refine Zc ?_ | refine XO_gU (hk := ?_))
  refine XO_call (pnew_spec p) (hk := ?_)
  rintro _ _ ⟨pb, rfl, rfl⟩
  repeat (first | refine Zq ?_ | refine Zs ?_ | refine ZT ?_ | refine ZF ?_ | refine Zc ?_ | refine XO_gU (hk := ?_))
  refine XO_call cnew_spec (hk := ?_)
  rintro _ _ ⟨kb, rfl, rfl⟩
  repeat (first | refine Zq ?_ | refine Zs ?_ | refine ZT ?_ | refine ZF ?_ | refine Zc ?_ | refine XO_gU (hk := ?_))
  refine XO_dv (dv_makeMap idE ptV) (hk := ?_)
  rintro _ _ ⟨mb, rfl, rfl⟩
  repeat (first | refine Zq ?_ | refine Zs ?_ | refine ZT ?_ | refine ZF ?_ | refine Zc ?_ | refine XO_gU (hk := ?_))
  refine XO_dv dv_box (hk := ?_)
  rintro _ _ ⟨b, rfl, rfl⟩
  repeat (first | refine Zq ?_ | refine Zs ?_ | refine ZT ?_ | refine ZF ?_ | refine Zc ?_ | refine XO_gU (hk := ?_))
  refine XE_ret (.inl rfl) (tells_tmps rfl rfl) ⟨_, ⟨b, mb, rfl, rfl⟩, ?_⟩
  (try simp only [List.cons_append, List.nil_append])
  refine ent_fold (by repeat (first | exact FindAll.nil | exact Find.here | apply Find.there | apply FindAll.cons)) (Core.fold (C := ⟨min (max p 1) 1048576, [(0, min (max p 1) 1048576)], fun _ => [], 0⟩)) ?_
  ((try simp only [List.cons_append, List.nil_append]); repeat (first | exact ent_refl | refine ent_take (by repeat (first | exact Find.here | apply Find.there)) ?_ | refine ent_drop ?_))
theorem put_spec (l mb : Nat) (C : Co) (r : Int × Int) (h : CoOk C) (h0 : 0 ≤ r.1) (h1 : r.1 ≤ 1048576) (h2 : 0 ≤ r.2) (h3 : r.2 ≤ 1048576) : Spec Tryz.prog 76 [.pointer (some ⟨l, 0, none⟩), eRun.val r] [Core l mb C] (fun v L => v = .tuple #[] ∧ L = [Core l mb (putC C r)]) := by
  refine Spec.intro (IsEnt.out) Tryz.func76 rfl Tryz.ntmps76 (by simp) (fun w0 F => ?_)
  simp only [envOf, List.zipIdx, List.map, List.cons_append, List.nil_append, Nat.zero_add, Nat.reduceAdd]
  repeat (first | refine Zq ?_ | refine Zs ?_ | refine ZT ?_ | refine ZF ?_ | refine Zc ?_ | refine XO_gU (hk := ?_))
  refine XO_dv (dv_box (row := eRun.cells r)) (hk := ?_)
  rintro _ _ ⟨b3, rfl, rfl⟩
  repeat (first | refine Zq ?_ | refine Zs ?_ | refine ZT ?_ | refine ZF ?_ | refine Zc ?_ | refine XO_gU (hk := ?_))
  refine XO_call (cclass_spec r.2) (hk := ?_)
  rintro _ _ ⟨rfl, rfl⟩
  refine XO_open (A := Core l mb C) (by (repeat (first | exact Find.here | apply Find.there))) Core.open ?_
  rintro ⟨pb, kb, t⟩ -
  dsimp only [List.cons_append, List.nil_append]
  repeat (first | refine Zq ?_ | refine Zs ?_ | refine ZT ?_ | refine ZF ?_ | refine Zc ?_ | refine XO_gU (hk := ?_))
  repeat (first | refine XD_pick (h := ?_) | refine Dq ?_ | refine Ds ?_ | refine XDi_gF (h := ?_) | refine XDi_gU (h := ?_) | refine X_draws (h := ?_))
  refine XD_one (h := ?_)
  refine XDa_dvA (dv_call (cpages_spec (cclass r.2))) (hk := ?_)
  (rintro _ _ ⟨_, ⟨rfl, rfl⟩, rfl⟩; refine ⟨by (repeat (first | exact keeps_nil | exact keeps_fnil | refine keeps_skip (h := ?_) | refine keeps_takeQ (h := ?_))), ?_⟩)
  repeat (first | refine XD_pick (h := ?_) | refine Dq ?_ | refine Ds ?_ | refine XDi_gF (h := ?_) | refine XDi_gU (h := ?_) | refine X_draws (h := ?_))
  refine XDi_either (hT := fun hq => ?_) (hF := fun hq => ?_)
  · have hne : ¬ cpages (cclass r.2) = r.2 := by simpa using hq
    have hput : putC C r = giveC C r := by unfold putC; rw [if_neg (fun h' => hne h'.1)]
    repeat (first | refine XD_pick (h := ?_) | refine Dq ?_ | refine Ds ?_ | refine XDi_gF (h := ?_) | refine XDi_gU (h := ?_) | refine X_draws (h := ?_))
    (refine XD_head (h := ?_); first | refine XDi_gF (h := ?_) | refine XDi_gU (h := ?_))
    repeat (first | refine XD_pick (h := ?_) | refine Dq ?_ | refine Ds ?_ | refine XDi_gF (h := ?_) | refine XDi_gU (h := ?_) | refine X_draws (h := ?_))
    (refine XD_end (h := ?_); repeat (first | refine Zq ?_ | refine Zs ?_ | refine ZT ?_ | refine ZF ?_ | refine Zc ?_ | refine XO_gU (hk := ?_)))
    refine X_cond rfl (fun _ => ?_) (fun h => by cases h)
    repeat (first | refine Zq ?_ | refine Zs ?_ | refine ZT ?_ | refine ZF ?_ | refine Zc ?_ | refine XO_gU (hk := ?_))
    repeat (first | refine XD_pick (h := ?_) | refine Dq ?_ | refine Ds ?_ | refine XDi_gF (h := ?_) | refine XDi_gU (h := ?_) | refine X_draws (h := ?_))
    refine XD_one (h := ?_)
    refine XDa_dvA (dv_call (pgive_spec pb C.P t r.1 r.2 C.fr (rf_len' (by have := h.p1; omega) h.p2 h.right) (rf_bd h.p2 h.right) (by have := h.p1; omega) h.p2 (by omega) (by omega) (by omega) (by omega))) (hk := ?_)
    rintro v _ ⟨L', hpost, rfl⟩
    obtain ⟨w', t', rfl, rfl⟩ := give_step hpost
    refine ⟨by (repeat (first | exact keeps_nil | exact keeps_fnil | refine keeps_skip (h := ?_) | refine keeps_takeQ (h := ?_))), ?_⟩
    (refine XD_end (h := ?_); repeat (first | refine Zq ?_ | refine Zs ?_ | refine ZT ?_ | refine ZF ?_ | refine Zc ?_ | refine XO_gU (hk := ?_)))
    rw [hput]
    refine XE_ret (.inr rfl) (tells_tmps rfl rfl) ⟨_, ⟨rfl, rfl⟩, ?_⟩
    (try simp only [List.cons_append, List.nil_append])
    refine ent_fold (by repeat (first | exact FindAll.nil | exact Find.here | apply Find.there | apply FindAll.cons)) (Core.fold (C := giveC C r)) ?_
    ((try simp only [List.cons_append, List.nil_append]); repeat (first | exact ent_refl | refine ent_take (by repeat (first | exact Find.here | apply Find.there)) ?_ | refine ent_drop ?_))
  have heq : cpages (cclass r.2) = r.2 := by simpa using hq
  repeat (first | refine XD_pick (h := ?_) | refine Dq ?_ | refine Ds ?_ | refine XDi_gF (h := ?_) | refine XDi_gU (h := ?_) | refine X_draws (h := ?_))
  refine XD_one (h := ?_)
  refine XDa_dvA (dv_call (cpush_spec kb C.ks (cclass r.2) r.1)) (hk := ?_)
  rintro v _ ⟨L', hpost, rfl⟩
  by_cases hc : 0 ≤ cclass r.2 ∧ cclass r.2 < 7 ∧ 0 ≤ r.1 ∧ (C.ks (cclass r.2).toNat).length < 4
  · have hP : cpushP kb C.ks (cclass r.2) r.1 = fun v L => v = .bool true ∧ L = [Kc kb (upd C.ks (cclass r.2).toNat (C.ks (cclass r.2).toNat ++ [r.1]))] := by unfold cpushP; rw [if_pos hc]
    have hput : putC C r = ⟨C.P, C.fr, upd C.ks (cclass r.2).toNat (C.ks (cclass r.2).toNat ++ [r.1]), C.t⟩ := by unfold putC; rw [if_pos ⟨heq, hc⟩]
    rw [hP] at hpost
    obtain ⟨rfl, rfl⟩ := hpost
    refine ⟨by (repeat (first | exact keeps_nil | exact keeps_fnil | refine keeps_skip (h := ?_) | refine keeps_takeQ (h := ?_))), ?_⟩
    repeat (first | refine XD_pick (h := ?_) | refine Dq ?_ | refine Ds ?_ | refine XDi_gF (h := ?_) | refine XDi_gU (h := ?_) | refine X_draws (h := ?_))
    (refine XD_end (h := ?_); repeat (first | refine Zq ?_ | refine Zs ?_ | refine ZT ?_ | refine ZF ?_ | refine Zc ?_ | refine XO_gU (hk := ?_)))
    refine X_cond rfl (fun h => by cases h) (fun _ => ?_)
    repeat (first | refine Zq ?_ | refine Zs ?_ | refine ZT ?_ | refine ZF ?_ | refine Zc ?_ | refine XO_gU (hk := ?_))
    rw [hput]
    refine XE_ret (.inr rfl) (tells_tmps rfl rfl) ⟨_, ⟨rfl, rfl⟩, ?_⟩
    (try simp only [List.cons_append, List.nil_append])
    refine ent_fold (by repeat (first | exact FindAll.nil | exact Find.here | apply Find.there | apply FindAll.cons)) (Core.fold (C := ⟨C.P, C.fr, upd C.ks (cclass r.2).toNat (C.ks (cclass r.2).toNat ++ [r.1]), C.t⟩)) ?_
    ((try simp only [List.cons_append, List.nil_append]); repeat (first | exact ent_refl | refine ent_take (by repeat (first | exact Find.here | apply Find.there)) ?_ | refine ent_drop ?_))
  · have hP : cpushP kb C.ks (cclass r.2) r.1 = fun v L => v = .bool false ∧ L = [Kc kb C.ks] := by unfold cpushP; rw [if_neg hc]
    have hput : putC C r = giveC C r := by unfold putC; rw [if_neg (fun h' => hc h'.2)]
    rw [hP] at hpost
    obtain ⟨rfl, rfl⟩ := hpost
    refine ⟨by (repeat (first | exact keeps_nil | exact keeps_fnil | refine keeps_skip (h := ?_) | refine keeps_takeQ (h := ?_))), ?_⟩
    repeat (first | refine XD_pick (h := ?_) | refine Dq ?_ | refine Ds ?_ | refine XDi_gF (h := ?_) | refine XDi_gU (h := ?_) | refine X_draws (h := ?_))
    (refine XD_end (h := ?_); repeat (first | refine Zq ?_ | refine Zs ?_ | refine ZT ?_ | refine ZF ?_ | refine Zc ?_ | refine XO_gU (hk := ?_)))
    refine X_cond rfl (fun _ => ?_) (fun h => by cases h)
    repeat (first | refine Zq ?_ | refine Zs ?_ | refine ZT ?_ | refine ZF ?_ | refine Zc ?_ | refine XO_gU (hk := ?_))
    repeat (first | refine XD_pick (h := ?_) | refine Dq ?_ | refine Ds ?_ | refine XDi_gF (h := ?_) | refine XDi_gU (h := ?_) | refine X_draws (h := ?_))
    refine XD_one (h := ?_)
    refine XDa_dvA (dv_call (pgive_spec pb C.P t r.1 r.2 C.fr (rf_len' (by have := h.p1; omega) h.p2 h.right) (rf_bd h.p2 h.right) (by have := h.p1; omega) h.p2 (by omega) (by omega) (by omega) (by omega))) (hk := ?_)
    rintro v _ ⟨L', hpost, rfl⟩
    obtain ⟨w', t', rfl, rfl⟩ := give_step hpost
    refine ⟨by (repeat (first | exact keeps_nil | exact keeps_fnil | refine keeps_skip (h := ?_) | refine keeps_takeQ (h := ?_))), ?_⟩
    (refine XD_end (h := ?_); repeat (first | refine Zq ?_ | refine Zs ?_ | refine ZT ?_ | refine ZF ?_ | refine Zc ?_ | refine XO_gU (hk := ?_)))
    rw [hput]
    refine XE_ret (.inr rfl) (tells_tmps rfl rfl) ⟨_, ⟨rfl, rfl⟩, ?_⟩
    (try simp only [List.cons_append, List.nil_append])
    refine ent_fold (by repeat (first | exact FindAll.nil | exact Find.here | apply Find.there | apply FindAll.cons)) (Core.fold (C := giveC C r)) ?_
    ((try simp only [List.cons_append, List.nil_append]); repeat (first | exact ent_refl | refine ent_take (by repeat (first | exact Find.here | apply Find.there)) ?_ | refine ent_drop ?_))
end Go.Proofs.YtamecmklcnohjaaGreat.Sep
namespace Go.Proofs.YtamecmklcnohjaaGreat.Sep
open Go.RowKit
set_option linter.unusedSimpArgs false
set_option linter.unusedVariables false
attribute [local irreducible] Core
set_option maxHeartbeats 8000000
attribute [local irreducible] X XE XO XD XDi XDa PV RV DV pt base Spec Sl Mp Keeps Pg Kc

def getV (l mb : Nat) (C : Co) (n : Int) : Value → List HP → Prop := fun v L => v = .tuple #[.agg #[.int .i64 (getC C n).2.1, .int .i64 n], .int .i64 (getC C n).2.2] ∧ L = [Core l mb (getC C n).1]
theorem get_spec (l mb : Nat) (C : Co) (n : Int) (h : CoOk C) : Spec Tryz.prog 71 [.pointer (some ⟨l, 0, none⟩), .int .i64 n] [Core l mb C] (getV l mb C n) := by
  refine Spec.intro (IsEnt.out) Tryz.func71 rfl Tryz.ntmps71 (by simp) (fun w0 F => ?_)
  simp only [envOf, List.zipIdx, List.map, List.cons_append, List.nil_append, Nat.zero_add, Nat.reduceAdd]
  unfold getV
  refine X_open .here Core.open ?_
  rintro ⟨pb, kb, t⟩ -
  dsimp only [List.cons_append, List.nil_append]
  repeat (first | refine Zq ?_ | refine Zs ?_ | refine ZT ?_ | refine ZF ?_ | refine Zc ?_ | refine XO_gU (hk := ?_))
  refine XO_dv dv_alloc (hk := ?_)
  rintro _ _ ⟨gb, rfl, rfl⟩
  repeat (first | refine Zq ?_ | refine Zs ?_ | refine ZT ?_ | refine ZF ?_ | refine Zc ?_ | refine XO_gU (hk := ?_))
  repeat (first | refine XD_pick (h := ?_) | refine Dq ?_ | refine Ds ?_ | refine XDi_gF (h := ?_) | refine XDi_gU (h := ?_) | refine X_draws (h := ?_))
  refine XD_one (h := ?_)
  refine XDa_dvA (dv_call (cclass_spec n)) (hk := ?_)
  (rintro _ _ ⟨_, ⟨rfl, rfl⟩, rfl⟩; refine ⟨by (repeat (first | exact keeps_nil | exact keeps_fnil | refine keeps_skip (h := ?_) | refine keeps_takeQ (h := ?_))), ?_⟩)
  repeat (first | refine XD_pick (h := ?_) | refine Dq ?_ | refine Ds ?_ | refine XDi_gF (h := ?_) | refine XDi_gU (h := ?_) | refine X_draws (h := ?_))
  refine XD_one (h := ?_)
  refine XDa_dvA (dv_call (cpop_spec kb C.ks (cclass n))) (hk := ?_)
  rintro v _ ⟨L', hpost, rfl⟩
  by_cases hc : 0 ≤ cclass n ∧ cclass n < 7 ∧ 0 < (C.ks (cclass n).toNat).length
  · have hP : cpopP kb C.ks (cclass n) = fun v L => v = .tuple #[.int .i64 ((C.ks (cclass n).toNat).getD ((C.ks (cclass n).toNat).length - 1) 0), .bool true] ∧ L = [Kc kb (upd C.ks (cclass n).toNat (C.ks (cclass n).toNat).dropLast)] := by unfold cpopP; rw [if_pos hc]
    have hg : getC C n = (⟨C.P, C.fr, upd C.ks (cclass n).toNat (C.ks (cclass n).toNat).dropLast, C.t⟩, (C.ks (cclass n).toNat).getD ((C.ks (cclass n).toNat).length - 1) 0, 0) := by unfold getC; rw [if_pos hc]
    rw [hP] at hpost
    obtain ⟨rfl, rfl⟩ := hpost
    refine ⟨by (repeat (first | exact keeps_nil | exact keeps_fnil | refine keeps_skip (h := ?_) | refine keeps_takeQ (h := ?_))), ?_⟩
    rw [hg]
    repeat (first | refine XD_pick (h := ?_) | refine Dq ?_ | refine Ds ?_ | refine XDi_gF (h := ?_) | refine XDi_gU (h := ?_) | refine X_draws (h := ?_))
    (refine XD_one (h := ?_); refine XDa_dvA (dv_of_rv (rv_of_pv pv_assign)) (hk := ?_); rintro _ _ ⟨rfl, rfl⟩; refine ⟨by (repeat (first | exact keeps_nil | exact keeps_fnil | refine keeps_skip (h := ?_) | refine keeps_takeQ (h := ?_))), ?_⟩)
    (refine XD_one (h := ?_); refine XDa_dvA (dv_of_rv (rv_of_pv pv_assign)) (hk := ?_); rintro _ _ ⟨rfl, rfl⟩; refine ⟨by (repeat (first | exact keeps_nil | exact keeps_fnil | refine keeps_skip (h := ?_) | refine keeps_takeQ (h := ?_))), ?_⟩)
    (refine XD_end (h := ?_); repeat (first | refine Zq ?_ | refine Zs ?_ | refine ZT ?_ | refine ZF ?_ | refine Zc ?_ | refine XO_gU (hk := ?_)))
    refine X_cond rfl (fun _ => ?_) (fun h => by cases h)
    repeat (first | refine Zq ?_ | refine Zs ?_ | refine ZT ?_ | refine ZF ?_ | refine Zc ?_ | refine XO_gU (hk := ?_))
    refine XO_dv0 dv_storeW (hk := ?_)
    rintro _ _ rfl
    repeat (first | refine Zq ?_ | refine Zs ?_ | refine ZT ?_ | refine ZF ?_ | refine Zc ?_ | refine XO_gU (hk := ?_))
    refine XE_fold (by repeat (first | exact FindAll.nil | exact Find.here | apply Find.there | apply FindAll.cons)) (Core.fold (C := ⟨C.P, C.fr, upd C.ks (cclass n).toNat (C.ks (cclass n).toNat).dropLast, C.t⟩)) ?_
    refine XE_ret (.inl rfl) (tells_many (rs := [.cell _ _, .tmp _]) (vs := [_, _]) rfl ⟨told_cell, told_tmp, trivial⟩) ⟨_, ⟨rfl, rfl⟩, by ((try simp only [List.cons_append, List.nil_append]); repeat (first | exact ent_refl | refine ent_take (by repeat (first | exact Find.here | apply Find.there)) ?_ | refine ent_drop ?_))⟩
  · have hP : cpopP kb C.ks (cclass n) = fun v L => v = .tuple #[.int .i64 0, .bool false] ∧ L = [Kc kb C.ks] := by unfold cpopP; rw [if_neg hc]
    have hg : getC C n = if (takeC C n).2.2 = 4 then (if 0 < trimN C then takeC (trimC C) n else (trimC C, (takeC C n).2)) else takeC C n := by conv => lhs; unfold getC; rw [if_neg hc]
    rw [hP] at hpost
    obtain ⟨rfl, rfl⟩ := hpost
    refine ⟨by (repeat (first | exact keeps_nil | exact keeps_fnil | refine keeps_skip (h := ?_) | refine keeps_takeQ (h := ?_))), ?_⟩
    rw [hg]
    repeat (first | refine XD_pick (h := ?_) | refine Dq ?_ | refine Ds ?_ | refine XDi_gF (h := ?_) | refine XDi_gU (h := ?_) | refine X_draws (h := ?_))
    (refine XD_one (h := ?_); refine XDa_dvA (dv_of_rv (rv_of_pv pv_assign)) (hk := ?_); rintro _ _ ⟨rfl, rfl⟩; refine ⟨by (repeat (first | exact keeps_nil | exact keeps_fnil | refine keeps_skip (h := ?_) | refine keeps_takeQ (h := ?_))), ?_⟩)
    (refine XD_one (h := ?_); refine XDa_dvA (dv_of_rv (rv_of_pv pv_assign)) (hk := ?_); rintro _ _ ⟨rfl, rfl⟩; refine ⟨by (repeat (first | exact keeps_nil | exact keeps_fnil | refine keeps_skip (h := ?_) | refine keeps_takeQ (h := ?_))), ?_⟩)
    (refine XD_end (h := ?_); repeat (first | refine Zq ?_ | refine Zs ?_ | refine ZT ?_ | refine ZF ?_ | refine Zc ?_ | refine XO_gU (hk := ?_)))
    refine X_cond rfl (fun h => by cases h) (fun _ => ?_)
    repeat (first | refine Zq ?_ | refine Zs ?_ | refine ZT ?_ | refine ZF ?_ | refine Zc ?_ | refine XO_gU (hk := ?_))
    refine XO_call (ptake_spec pb C.P t n C.fr (rf_len' (by have := h.p1; omega) h.p2 h.right) (rf_bd h.p2 h.right)) (hk := ?_)
    intro v L' hpost
    obtain ⟨t', rfl, rfl⟩ := take_step hpost
    repeat (first | refine Zq ?_ | refine Zs ?_ | refine ZT ?_ | refine ZF ?_ | refine Zc ?_ | refine XO_gU (hk := ?_))
    by_cases he : (takeC C n).2.2 = 4
    · obtain ⟨h1, h2⟩ := takeC_full he
      have hv1 : (takeC C n).2.1 = 0 := by rw [h2]
      rw [if_pos he]
      rw [he, hv1, h1]
      refine XO_known true (hb := rfl) (hk := ?_)
      refine XO_fold (by repeat (first | exact FindAll.nil | exact Find.here | apply Find.there | apply FindAll.cons)) (Core.fold (C := C)) ?_
      repeat (first | refine Zq ?_ | refine Zs ?_ | refine ZT ?_ | refine ZF ?_ | refine Zc ?_ | refine XO_gU (hk := ?_))
      refine XO_call (trim_spec l mb C h) (hk := ?_)
      rintro _ _ ⟨rfl, rfl⟩
      repeat (first | refine Zq ?_ | refine Zs ?_ | refine ZT ?_ | refine ZF ?_ | refine Zc ?_ | refine XO_gU (hk := ?_))
      refine X_cond rfl (fun h3 => ?_) (fun h3 => ?_) <;> simp only [decide_eq_true_eq, decide_eq_false_iff_not] at h3
      · rw [if_pos h3]
        have hT := trimC_ok h
        refine X_open .here Core.open ?_
        rintro ⟨pb2, kb2, t2⟩ -
        dsimp only [List.cons_append, List.nil_append]
        repeat (first | refine Zq ?_ | refine Zs ?_ | refine ZT ?_ | refine ZF ?_ | refine Zc ?_ | refine XO_gU (hk := ?_))
        refine XO_call (ptake_spec pb2 (trimC C).P t2 n (trimC C).fr (rf_len' (by have := hT.p1; omega) hT.p2 hT.right) (rf_bd hT.p2 hT.right)) (hk := ?_)
        intro v L' hpost
        obtain ⟨t3, rfl, rfl⟩ := take_step hpost
        have hPk := takeC_P (trimC C) n
        repeat (first | refine Zq ?_ | refine Zs ?_ | refine ZT ?_ | refine ZF ?_ | refine Zc ?_ | refine XO_gU (hk := ?_))
        refine XO_dv0 dv_storeW (hk := ?_)
        rintro _ _ rfl
        repeat (first | refine Zq ?_ | refine Zs ?_ | refine ZT ?_ | refine ZF ?_ | refine Zc ?_ | refine XO_gU (hk := ?_))
        refine XE_ret (.inl rfl) (tells_many (rs := [.cell _ _, .tmp _]) (vs := [_, _]) rfl ⟨told_cell, told_tmp, trivial⟩) ⟨_, ⟨rfl, rfl⟩, ?_⟩
        (try simp only [List.cons_append, List.nil_append])
        rw [← hPk.1, ← hPk.2]
        refine ent_fold (by repeat (first | exact FindAll.nil | exact Find.here | apply Find.there | apply FindAll.cons)) (Core.fold (C := (takeC (trimC C) n).1)) ?_
        ((try simp only [List.cons_append, List.nil_append]); repeat (first | exact ent_refl | refine ent_take (by repeat (first | exact Find.here | apply Find.there)) ?_ | refine ent_drop ?_))
      · rw [if_neg h3, h2]
        repeat (first | refine Zq ?_ | refine Zs ?_ | refine ZT ?_ | refine ZF ?_ | refine Zc ?_ | refine XO_gU (hk := ?_))
        refine XO_dv0 dv_storeW (hk := ?_)
        rintro _ _ rfl
        repeat (first | refine Zq ?_ | refine Zs ?_ | refine ZT ?_ | refine ZF ?_ | refine Zc ?_ | refine XO_gU (hk := ?_))
        refine XE_ret (.inl rfl) (tells_many (rs := [.cell _ _, .tmp _]) (vs := [_, _]) rfl ⟨told_cell, told_tmp, trivial⟩) ⟨_, ⟨rfl, rfl⟩, ?_⟩
        (try simp only [List.cons_append, List.nil_append])
        ((try simp only [List.cons_append, List.nil_append]); repeat (first | exact ent_refl | refine ent_take (by repeat (first | exact Find.here | apply Find.there)) ?_ | refine ent_drop ?_))
    · rw [if_neg he]
      refine XO_known false (hb := by simpa using he) (hk := ?_)
      have hPk := takeC_P C n
      repeat (first | refine Zq ?_ | refine Zs ?_ | refine ZT ?_ | refine ZF ?_ | refine Zc ?_ | refine XO_gU (hk := ?_))
      refine X_cond rfl (fun h => by cases h) (fun _ => ?_)
      repeat (first | refine Zq ?_ | refine Zs ?_ | refine ZT ?_ | refine ZF ?_ | refine Zc ?_ | refine XO_gU (hk := ?_))
      refine XO_dv0 dv_storeW (hk := ?_)
      rintro _ _ rfl
      repeat (first | refine Zq ?_ | refine Zs ?_ | refine ZT ?_ | refine ZF ?_ | refine Zc ?_ | refine XO_gU (hk := ?_))
      refine XE_ret (.inl rfl) (tells_many (rs := [.cell _ _, .tmp _]) (vs := [_, _]) rfl ⟨told_cell, told_tmp, trivial⟩) ⟨_, ⟨rfl, rfl⟩, ?_⟩
      (try simp only [List.cons_append, List.nil_append])
      rw [← hPk.1, ← hPk.2]
      refine ent_fold (by repeat (first | exact FindAll.nil | exact Find.here | apply Find.there | apply FindAll.cons)) (Core.fold (C := (takeC C n).1)) ?_
      ((try simp only [List.cons_append, List.nil_append]); repeat (first | exact ent_refl | refine ent_take (by repeat (first | exact Find.here | apply Find.there)) ?_ | refine ent_drop ?_))
end Go.Proofs.YtamecmklcnohjaaGreat.Sep
namespace Go.Proofs.YtamecmklcnohjaaGreat.Sep
open Go.RowKit
set_option linter.unusedSimpArgs false
set_option linter.unusedVariables false
set_option linter.unusedSectionVars false
/-! regions in which several operations may come up -/
section
variable {P : Program} {w0 : World} {n : Nat} {Q : Exit → Act → World → Prop} {ops : Array Oper} {k : List KI} {D : Pend} {vl : List Nat} {e : Env} {L R : List HP} {i d : Nat} {ty : TypeId} {pos : String} {aft : Array Edge} {v : Value}
def XAny (C : Cx) (ops : Array Oper) (k : List KI) (D : Pend) (vl : List Nat) (e : Env) (L : List HP) : List Nat → Prop
  | [] => True
  | i :: l => (∃ o, ops[i]? = some o ∧ XDa C ops k D vl e L i o) ∧ XAny C ops k D vl e L l
theorem xany_mem {C : Cx} : ∀ {l : List Nat}, XAny C ops k D vl e L l → ∀ x ∈ l, ∃ o, ops[x]? = some o ∧ XDa C ops k D vl e L x o
  | i :: l, h, x, hx => by
    rcases List.mem_cons.1 hx with rfl | hx
    · exact h.1
    · exact xany_mem h.2 x hx
theorem XD_any {C : Cx} (rs : List Nat) (hr : readyV ops vl = rs) (hne : rs ≠ []) (h : XAny C ops k D vl e L rs) : XD C ops k D vl e L := by
  intro G
  have hc : ∀ x ∈ readyV ops vl, vl.contains x = false := fun x hx => by simpa using (mem_readyV.1 hx).1
  refine XD_act (fun x hx => ?_) (fun h0 => absurd (hr.symm.trans h0) hne) G
  obtain ⟨o, ho, ha⟩ := xany_mem h x (by rw [← hr]; exact hx)
  exact ha G (hc x hx) ho
theorem XD_three {C : Cx} {j l : Nat} {o o' o2 : Oper} (hr : readyV ops vl = [i, j, l] := by rfl) (ho : ops[i]? = some o := by rfl) (ho' : ops[j]? = some o' := by rfl) (ho2 : ops[l]? = some o2 := by rfl) (h : XDa C ops k D vl e L i o) (h' : XDa C ops k D vl e L j o') (h2 : XDa C ops k D vl e L l o2) : XD C ops k D vl e L :=
  XD_any _ hr (by simp) ⟨⟨_, ho, h⟩, ⟨_, ho', h'⟩, ⟨_, ho2, h2⟩, trivial⟩
theorem XD_four {C : Cx} {j l m : Nat} {o o' o2 o3 : Oper} (hr : readyV ops vl = [i, j, l, m] := by rfl) (ho : ops[i]? = some o := by rfl) (ho' : ops[j]? = some o' := by rfl) (ho2 : ops[l]? = some o2 := by rfl) (ho3 : ops[m]? = some o3 := by rfl) (h : XDa C ops k D vl e L i o) (h' : XDa C ops k D vl e L j o') (h2 : XDa C ops k D vl e L l o2) (h3 : XDa C ops k D vl e L m o3) : XD C ops k D vl e L :=
  XD_any _ hr (by simp) ⟨⟨_, ho, h⟩, ⟨_, ho', h'⟩, ⟨_, ho2, h2⟩, ⟨_, ho3, h3⟩, trivial⟩
/-- The same state, written otherwise. -/
theorem XD_perm {C : Cx} {D' : Pend} {vl' : List Nat} {e' : Env} {L' : List HP} (h : XD C ops k D' vl' e' L') (hv : ∀ x, x ∈ vl ↔ x ∈ vl') (he1 : ∀ t u, e'.get t = some u → e.get t = some u) (he2 : ∀ t u, e.get t = some u → e'.get t = some u)
    (hD1 : ∀ p ∈ D, p ∈ D') (hD2 : ∀ p ∈ D', p ∈ D) (hL1 : ∀ H, SL L H → SL L' H) (hL2 : ∀ H, SL L' H → SL L H) : XD C ops k D vl e L := by
  intro G fuel al tm w hS hs
  have hge : ∀ t, e'.get t = e.get t := fun t => by
    cases h1 : e'.get t with
    | some u => rw [he1 t u h1]
    | none => cases h2 : e.get t with
      | none => rfl
      | some u => rw [he2 t u h2] at h1; cases h1
  refine h ⟨G.wf, fun p hp => ?_, fun p hp o d ho hd => ?_, fun p hp => (hv _).1 (G.has p (hD2 p hp)), fun p hp => G.slot p (hD2 p hp), fun p hp q hq => G.nowar p (hD2 p hp) q (hD2 q hq), fun j hj o ho ed hed hb => (hv _).1 (G.closed j ((hv _).2 hj) o ho ed hed hb)⟩ fuel al tm w ⟨hS.size, hS.n, hS.count, fun j hj => (hv _).1 (hS.sub j hj), hS.done, fun j hj ha => ?_, fun t u ht => ?_⟩ (hs.map hL1)
  · intro o ho tm w ha hsat
    exact G.yields p (hD2 p hp) o ho tm w (restr_ext (fun t _ => hge t) ha) (fun hb => (hsat hb).map hL2)
  · rw [hge]; exact G.bound p (hD2 p hp) o d ho hd
  · obtain ⟨p, hp, e1⟩ := hS.over j ((hv _).2 hj) ha
    exact ⟨p, hD1 p hp, e1⟩
  · rcases hS.agree t u (he1 t u ht) with h1 | ⟨p, hp, h2⟩
    · exact .inl h1
    · exact .inr ⟨p, hD1 p hp, h2⟩
theorem XD_perm2 {C : Cx} {D' : Pend} {vl' : List Nat} {e' : Env} {L' : List HP} (h : XD C ops k D' vl' e' L') (hv : (vl.all (fun x => vl'.contains x) && vl'.all (fun x => vl.contains x)) = true := by kernel_rfl) (hD : D = D' := by kernel_rfl)
    (he1 : Env.sub e' e := by repeat (first | exact Env.sub_nil _ | refine Env.sub_cons rfl ?_)) (he2 : Env.sub e e' := by repeat (first | exact Env.sub_nil _ | refine Env.sub_cons rfl ?_)) (hL1 : ∀ H, SL L H → SL L' H := by ((try simp only [List.cons_append, List.nil_append]); repeat (first | exact ent_refl | refine ent_take (by repeat (first | exact Find.here | apply Find.there)) ?_ | refine ent_drop ?_))) (hL2 : ∀ H, SL L' H → SL L H := by ((try simp only [List.cons_append, List.nil_append]); repeat (first | exact ent_refl | refine ent_take (by repeat (first | exact Find.here | apply Find.there)) ?_ | refine ent_drop ?_))) : XD C ops k D vl e L := by
  subst hD
  rw [Bool.and_eq_true, List.all_eq_true, List.all_eq_true] at hv
  exact XD_perm h (fun x => ⟨fun hx => by simpa using hv.1 x hx, fun hx => by simpa using hv.2 x hx⟩) he1 he2 (fun p hp => hp) (fun p hp => hp) hL1 hL2
/-! an alloc that may come up whenever: both ways are kept in step -/
theorem findAll_there {L As R : List HP} {B : HP} (h : FindAll L As R) : FindAll (B :: L) As (B :: R) := by
  induction h with
  | nil => exact .nil
  | cons hf _ ih => exact .cons (.there hf) ih
theorem find_app (A : HP) : ∀ L R : List HP, Find (L ++ A :: R) A (L ++ R)
  | [], R => .here
  | B :: L, R => .there (find_app A L R)
def XL (C : Cx) (ops : Array Oper) (k : List KI) (i d : Nat) (A : Nat → HP) (D : Pend) (vl : List Nat) (e : Env) (L : List HP) : Prop :=
  XD C ops k D vl e L ∧ ∀ b, XD C ops k D (i :: vl) ((d, .pointer (some ⟨b, 0, none⟩)) :: e) (A b :: L)
theorem XL_start {C : Cx} (i d : Nat) (A : Nat → HP) (h : XL C ops k i d A D vl e L) : XD C ops k D vl e L := h.1
theorem getE_ne {t d : Nat} {v : Value} (h : t ≠ d) : Env.get ((d, v) :: e) t = e.get t := by
  have : (t == d) = false := by simpa using h
  simp [Env.get, List.lookup, this]
theorem getE_swap {d d' : Nat} {v v' : Value} (h : d' ≠ d) (t : Nat) : Env.get ((d', v') :: (d, v) :: e) t = Env.get ((d, v) :: (d', v') :: e) t := by
  by_cases e1 : t = d'
  · subst e1; rw [getE_ne h]; simp [Env.get, List.lookup]
  · rw [getE_ne e1]
    by_cases e2 : t = d
    · subst e2; simp [Env.get, List.lookup]
    · rw [getE_ne e2, getE_ne e2, getE_ne e1]
theorem depsIn_mono {o : Oper} {x : Nat} (h : depsIn o vl = true) : depsIn o (x :: vl) = true := by
  unfold depsIn at h ⊢
  rw [List.all_eq_true] at h ⊢
  intro ed hed
  have := h ed hed
  simp only [Bool.or_eq_true, List.contains_iff_mem, List.mem_cons] at this ⊢
  rcases this with h | h
  · exact .inl h
  · exact .inr (.inr h)
theorem agree_new {ts : List Nat} {d : Nat} {v : Value} {tm : Array Value} (h : ts.contains d = false) (ha : Agree (restr ((d, v) :: e) ts) tm) : Agree (restr e ts) tm :=
  restr_ext (fun t ht => getE_ne (by rintro rfl; rw [h] at ht; cases ht)) ha
theorem XL_read {C : Cx} {A : Nat → HP} {j dj : Nat} {b : Bool} {o : Oper} (ho : ops[j]? = some o) (hd : o.dst = some dj) (hi : vl.contains j = false) (hij : (j == i) = false) (hdd : (dj == d) = false) (hr : depsIn o vl = true) (hl : (o.looksAt ops).contains dj = false) (hld : (o.looksAt ops).contains d = false)
    (hdis : (D.all fun p => match ops[p.1]? with | some oj => !(oj.looksAt ops).contains dj | none => true) = true) (hdn : dj < C.n) (hv : ∀ tm w, Agree (restr e (o.looksAt ops)) tm → (b = false → Sat C.w0 w L) → YieldsAt C.P ops w o v ⟨tm, []⟩)
    (h : XL C ops k i d A ((j, v, b) :: D) (j :: vl) ((dj, v) :: e) L) : XL C ops k i d A D vl e L := by
  have hij' : j ≠ i := by simpa using hij
  have hdd' : dj ≠ d := by simpa using hdd
  refine ⟨XD_read ho hd hi hr hl hdis hdn hv h.1, fun b' => ?_⟩
  refine XD_read ho hd ?_ (depsIn_mono hr) hl hdis hdn (fun tm w ha hs => hv tm w (agree_new hld ha) fun hb => (hs hb).drop) ?_
  · simp only [List.contains_eq_mem, decide_eq_false_iff_not, List.mem_cons, not_or] at hi ⊢
    exact ⟨hij', hi⟩
  · refine XD_perm (h.2 b') (fun x => ?_) (fun t u ht => ?_) (fun t u ht => ?_) (fun p hp => hp) (fun p hp => hp) (fun _ h => h) (fun _ h => h)
    · simp only [List.mem_cons]; constructor <;> (rintro (h | h | h) <;> simp [h])
    · rw [getE_swap hdd']; exact ht
    · rw [← getE_swap hdd']; exact ht
def XLi (C : Cx) (ops : Array Oper) (k : List KI) (i d : Nat) (A : Nat → HP) (D : Pend) (vl : List Nat) (e : Env) (L : List HP) (j : Nat) (o : Oper) : Prop :=
  ops[j]? = some o → vl.contains j = false → depsIn o vl = true → XL C ops k i d A D vl e L
theorem XL_pick {C : Cx} {A : Nat → HP} {j : Nat} {o : Oper} (h : XLi C ops k i d A D vl e L j o) (hi : pickR ops vl = some j := by rfl) (ho : ops[j]? = some o := by rfl) : XL C ops k i d A D vl e L := by
  have h1 := List.find?_some hi
  simp only [ho, Bool.and_eq_true, Bool.not_eq_true'] at h1
  exact h ho h1.1 h1.2.2
theorem Lq {op : Op} {A : Nat → HP} {j dj : Nat} {g : Option (Nat × Bool)} (h : XL ⟨P, w0, n, Q⟩ ops k i d A ((j, v, true) :: D) (j :: vl) ((dj, v) :: e) L) (hv : PV P op ty (restr e (Oper.looksAt ops ⟨some dj, op, ty, pos, aft, g⟩)) v := by first | exact pv_move | exact pv_assign | exact pv_field | exact pv_nil_ptr | exact pv_cmp | exact pv_arith | exact pv_extractL | exact pv_extract | exact pv_len_slice | exact pv_index | exact pv_not | exact pv_pickT | exact pv_pickF | exact pv_conv_int | exact pv_build | exact pv_eqb | exact pv_neb | exact pv_eqnil | exact pv_nenil | exact pv_max | exact pv_min | exact pv_bits | exact pv_shr12 | exact pv_shl12 | exact pv_quo | exact pv_rem)
    (hg : GOK ops e g := by first | exact True.intro | exact ⟨_, rfl, rfl⟩) (hij : (j == i) = false := by rfl) (hdd : (dj == d) = false := by rfl)
    (hl : (Oper.looksAt ops ⟨some dj, op, ty, pos, aft, g⟩).contains dj = false := by kernel_rfl) (hld : (Oper.looksAt ops ⟨some dj, op, ty, pos, aft, g⟩).contains d = false := by kernel_rfl) (hdis : (D.all fun p => match ops[p.1]? with | some oj => !(oj.looksAt ops).contains dj | none => true) = true := by kernel_rfl) (hdn : dj < n := by exact Nat.le_of_ble_eq_true rfl) : XLi ⟨P, w0, n, Q⟩ ops k i d A D vl e L j ⟨some dj, op, ty, pos, aft, g⟩ :=
  fun ho hi hr => XL_read ho rfl hi hij hdd hr hl hld hdis hdn (fun tm w ha _ => .inl ⟨gok_wanted hg ha, .inl (hv tm w pos aft ha)⟩) h
theorem Ls {op : Op} {A : Nat → HP} {j dj : Nat} {g : Option (Nat × Bool)} (h : XL ⟨P, w0, n, Q⟩ ops k i d A ((j, v, false) :: D) (j :: vl) ((dj, v) :: e) L) (hv : RV P w0 op ty (restr e (Oper.looksAt ops ⟨some dj, op, ty, pos, aft, g⟩)) L v := by first | exact rv_load | exact rv_loadW | exact rv_loadS | exact rv_vA | exact rv_vA0 | exact rv_sA | exact rv_sA0 | exact rv_veA | exact rv_seA)
    (hg : GOK ops e g := by first | exact True.intro | exact ⟨_, rfl, rfl⟩) (hij : (j == i) = false := by rfl) (hdd : (dj == d) = false := by rfl)
    (hl : (Oper.looksAt ops ⟨some dj, op, ty, pos, aft, g⟩).contains dj = false := by kernel_rfl) (hld : (Oper.looksAt ops ⟨some dj, op, ty, pos, aft, g⟩).contains d = false := by kernel_rfl) (hdis : (D.all fun p => match ops[p.1]? with | some oj => !(oj.looksAt ops).contains dj | none => true) = true := by kernel_rfl) (hdn : dj < n := by exact Nat.le_of_ble_eq_true rfl) : XLi ⟨P, w0, n, Q⟩ ops k i d A D vl e L j ⟨some dj, op, ty, pos, aft, g⟩ :=
  fun ho hi hr => XL_read ho rfl hi hij hdd hr hl hld hdis hdn (fun tm w ha hs => .inl ⟨gok_wanted hg ha, .inl (hv tm w pos aft ha (hs rfl))⟩) h
/-- The alloc comes up, or has come up. -/
theorem XL_end {T tyi : TypeId} {posi : String} {afti : Array Edge} {s by' : Nat} {z : Value} {row : List Value} (h : ∀ b, XD ⟨P, w0, n, Q⟩ ops k D (i :: vl) ((d, .pointer (some ⟨b, 0, none⟩)) :: e) (pt b (.cells row.toArray T (0, 0)) :: L)) (hr : readyV ops vl = [i] := by rfl) (ho : ops[i]? = some ⟨some d, .alloc T, tyi, posi, afti, none⟩ := by rfl) [hi : TI P T z s by'] (hz : z.cells = row.toArray := by rfl) (hdn : d < n := by exact Nat.le_of_ble_eq_true rfl)
    (hw : (D.all fun p => !waits ops afti p.1) = true := by kernel_rfl) (hld : (D.all fun p => match ops[p.1]? with | some oj => !(oj.looksAt ops).contains d | none => true) = true := by kernel_rfl) : XL ⟨P, w0, n, Q⟩ ops k i d (fun b => pt b (.cells row.toArray T (0, 0))) D vl e L := by
  refine ⟨?_, h⟩
  have hD : D.filter (fun p => !waits ops afti p.1) = D := List.filter_eq_self.2 (fun p hp => List.all_eq_true.1 hw p hp)
  refine XD_one hr ho (fun G hvl hoi => ?_)
  refine acts_gen (Φ := fun u L' => ∃ b, u = .pointer (some ⟨b, 0, none⟩) ∧ L' = pt b (.cells row.toArray T (0, 0)) :: L) (fun _ _ => rfl) (dv_alloc hz) (fun x hx => by cases hx; exact hdn) (fun v L' hΦ => ?_) G hvl hoi
  obtain ⟨b, rfl, rfl⟩ := hΦ
  refine ⟨fun p hp o hop tm w ha hs => ?_, by rw [hD]; exact h b⟩
  have hpD := (List.mem_filter.1 hp).1
  have hlk := List.all_eq_true.1 hld p hpD
  simp only [hop, Bool.not_eq_true'] at hlk
  exact G.yields p hpD o hop tm w (agree_new hlk ha) (fun hb => (hs hb).drop)
theorem XL_gen {T tyi : TypeId} {posi : String} {afti : Array Edge} {s by' : Nat} {z : Value} {row : List Value} {j dj : Nat} {op : Op} {g : Option (Nat × Bool)} {Φ : Value → List HP → Prop} {Φ' : Nat → Value → List HP → Prop}
    (ho : ops[i]? = some ⟨some d, .alloc T, tyi, posi, afti, none⟩) (hi : TI P T z s by') (hz : z.cells = row.toArray) (hdn : d < n)
    (hw : (D.all fun p => !waits ops afti p.1) = true) (hld : (D.all fun p => match ops[p.1]? with | some oj => !(oj.looksAt ops).contains d | none => true) = true)
    (hoj : ops[j]? = some ⟨some dj, op, ty, pos, aft, g⟩) (hdjn : dj < n) (hdd : (dj == d) = false) (hljd : (Oper.looksAt ops ⟨some dj, op, ty, pos, aft, g⟩).contains d = false)
    (hr1 : (readyV ops vl).all (fun x => x == j || x == i) = true) (hr1' : (readyV ops vl).isEmpty = false) (hr2 : readyV ops (i :: vl) = [j]) (hg : GOK ops e g)
    (hv : DV P w0 op ty (restr e (Oper.looksAt ops ⟨some dj, op, ty, pos, aft, g⟩)) L Φ) (hv' : ∀ b, DV P w0 op ty (restr e (Oper.looksAt ops ⟨some dj, op, ty, pos, aft, g⟩)) (pt b (.cells row.toArray T (0, 0)) :: L) (Φ' b))
    (hrel : ∀ b v L2, Φ' b v L2 → ∃ L1, Φ v L1 ∧ (∀ H, SL L2 H → SL (pt b (.cells row.toArray T (0, 0)) :: L1) H) ∧ ∀ H, SL (pt b (.cells row.toArray T (0, 0)) :: L1) H → SL L2 H)
    (hk : ∀ v L', Φ v L' → Keeps ⟨P, w0, n, Q⟩ ops ((dj, v) :: e) L' (D.filter fun p => !p.2.2 && !waits ops aft p.1) ∧ XL ⟨P, w0, n, Q⟩ ops k i d (fun b => pt b (.cells row.toArray T (0, 0))) (D.filter fun p => !waits ops aft p.1) (j :: vl) ((dj, v) :: e) L') :
    XL ⟨P, w0, n, Q⟩ ops k i d (fun b => pt b (.cells row.toArray T (0, 0))) D vl e L := by
  have hdd' : dj ≠ d := by simpa using hdd
  have hD : D.filter (fun p => !waits ops afti p.1) = D := List.filter_eq_self.2 (fun p hp => List.all_eq_true.1 hw p hp)
  have hlk : ∀ p ∈ D, ∀ o, ops[p.1]? = some o → (o.looksAt ops).contains d = false := fun p hp o hop => by
    have := List.all_eq_true.1 hld p hp
    simpa only [hop, Bool.not_eq_true'] using this
  have S2 : ∀ b, XD ⟨P, w0, n, Q⟩ ops k D (i :: vl) ((d, .pointer (some ⟨b, 0, none⟩)) :: e) (pt b (.cells row.toArray T (0, 0)) :: L) := fun b => by
    refine XD_one hr2 hoj (fun G hvl hoj' => ?_)
    refine acts_gen (Φ := Φ' b) (fun tm ha => gok_wanted hg (agree_new hljd ha)) (fun tm w pos aft' dd K Q' ha hs hK => hv' b tm w pos aft' dd K Q' (agree_new hljd ha) hs hK) (fun x hx => by cases hx; exact hdjn) (fun v L2 hΦ => ?_) G hvl hoj'
    obtain ⟨L1, h1, h2, h3⟩ := hrel b v L2 hΦ
    obtain ⟨k1, k2⟩ := hk v L1 h1
    refine ⟨fun p hp o hop tm w ha hs => ?_, ?_⟩
    · refine k1 p hp o hop tm w ?_ (fun hb => ((hs hb).map h2).drop)
      refine agree_new (d := d) (v := .pointer (some ⟨b, 0, none⟩)) (hlk p (List.mem_filter.1 hp).1 o hop) (restr_ext (fun t _ => ?_) ha)
      exact getE_swap hdd' t
    · refine XD_perm (k2.2 b) (fun x => ?_) (fun t u ht => ?_) (fun t u ht => ?_) (fun p hp => hp) (fun p hp => hp) h2 h3
      · simp only [List.mem_cons]; constructor <;> (rintro (h | h | h) <;> simp [h])
      · show Env.get ((dj, v) :: (d, .pointer (some ⟨b, 0, none⟩)) :: e) t = _; rw [getE_swap hdd']; exact ht
      · have ht' : Env.get ((dj, v) :: (d, .pointer (some ⟨b, 0, none⟩)) :: e) t = some u := ht
        rw [getE_swap hdd'] at ht'; exact ht'
  refine ⟨?_, S2⟩
  intro G
  have hc : ∀ x ∈ readyV ops vl, vl.contains x = false := fun x hx => by simpa using (mem_readyV.1 hx).1
  refine XD_act (fun x hx => ?_) (fun h0 => by rw [h0] at hr1'; simp at hr1') G
  have hxx := List.all_eq_true.1 hr1 x hx
  simp only [Bool.or_eq_true, beq_iff_eq] at hxx
  rcases hxx with rfl | rfl
  · refine acts_gen (Φ := Φ) (fun tm ha => gok_wanted hg ha) hv (fun x hx => by cases hx; exact hdjn) (fun v L1 hΦ => ?_) G (hc _ hx) hoj
    obtain ⟨k1, k2⟩ := hk v L1 hΦ
    exact ⟨k1, k2.1⟩
  · refine acts_gen (Φ := fun u L' => ∃ b, u = .pointer (some ⟨b, 0, none⟩) ∧ L' = pt b (.cells row.toArray T (0, 0)) :: L) (fun _ _ => rfl) (dv_alloc hz) (fun x hx => by cases hx; exact hdn) (fun v L' hΦ => ?_) G (hc _ hx) ho
    obtain ⟨b, rfl, rfl⟩ := hΦ
    refine ⟨fun p hp o hop tm w ha hs => ?_, by rw [hD]; exact S2 b⟩
    have hpD := (List.mem_filter.1 hp).1
    exact G.yields p hpD o hop tm w (agree_new (hlk p hpD o hop) ha) (fun hb => (hs hb).drop)
theorem XL_call {T tyi : TypeId} {posi : String} {afti : Array Edge} {s by' : Nat} {z : Value} {row : List Value} {j dj : Nat} {g : Option (Nat × Bool)} {f : Operand} {asg : Array Operand} {ts : Array TypeId} {fn : FuncId} {fst cap : Array Value} {vs args : List Value} {pre : List HP} {post : Value → List HP → Prop}
    (hs : Spec P fn args pre post) (hk : ∀ v L1, post v L1 → Keeps ⟨P, w0, n, Q⟩ ops ((dj, v) :: e) (L1 ++ R) (D.filter fun p => !p.2.2 && !waits ops aft p.1) ∧ XL ⟨P, w0, n, Q⟩ ops k i d (fun b => pt b (.cells row.toArray T (0, 0))) (D.filter fun p => !waits ops aft p.1) (j :: vl) ((dj, v) :: e) (L1 ++ R))
    (hr2 : readyV ops (i :: vl) = [j] := by rfl) (hoj : ops[j]? = some ⟨some dj, .call ⟨.value f, asg, ts⟩, ty, pos, aft, g⟩ := by rfl) (ho : ops[i]? = some ⟨some d, .alloc T, tyi, posi, afti, none⟩ := by rfl) [hi : TI P T z s by'] (hz : z.cells = row.toArray := by rfl) (hdn : d < n := by exact Nat.le_of_ble_eq_true rfl)
    (hw : (D.all fun p => !waits ops afti p.1) = true := by kernel_rfl) (hld : (D.all fun p => match ops[p.1]? with | some oj => !(oj.looksAt ops).contains d | none => true) = true := by kernel_rfl) (hdjn : dj < n := by exact Nat.le_of_ble_eq_true rfl) (hdd : (dj == d) = false := by rfl) (hljd : (Oper.looksAt ops ⟨some dj, .call ⟨.value f, asg, ts⟩, ty, pos, aft, g⟩).contains d = false := by kernel_rfl)
    (hr1 : (readyV ops vl).all (fun x => x == j || x == i) = true := by kernel_rfl) (hr1' : (readyV ops vl).isEmpty = false := by kernel_rfl) (hgk : GOK ops e g := by first | exact True.intro | exact ⟨_, rfl, rfl⟩)
    (hg : ev (restr e (Oper.looksAt ops ⟨some dj, .call ⟨.value f, asg, ts⟩, ty, pos, aft, g⟩)) f = some (.func (.func fn) fst cap) := by rfl) (has : evl (restr e (Oper.looksAt ops ⟨some dj, .call ⟨.value f, asg, ts⟩, ty, pos, aft, g⟩)) asg.toList = some vs := by rfl) (hargs : fst.toList ++ vs ++ cap.toList = args := by rfl) (hf : FindAll L pre R := by repeat (first | exact FindAll.nil | exact Find.here | apply Find.there | apply FindAll.cons)) :
    XL ⟨P, w0, n, Q⟩ ops k i d (fun b => pt b (.cells row.toArray T (0, 0))) D vl e L := by
  refine XL_gen (Φ := fun v L' => ∃ L1, post v L1 ∧ L' = L1 ++ R) (Φ' := fun b v L' => ∃ L1, post v L1 ∧ L' = L1 ++ (pt b (.cells row.toArray T (0, 0)) :: R)) ho hi hz hdn hw hld hoj hdjn hdd hljd hr1 hr1' hr2 hgk (dv_call hs hg has hargs hf) (fun b => dv_call hs hg has hargs (findAll_there hf)) (fun b v L2 ⟨L1, h1, h2⟩ => ⟨L1 ++ R, ⟨L1, h1, rfl⟩, ?_, ?_⟩) (fun v L' ⟨L1, h1, h2⟩ => by subst h2; exact hk v L1 h1)
  · subst h2; exact fun _ => (find_app _ L1 R).fwd
  · subst h2; exact fun _ => (find_app _ L1 R).bwd
theorem XL_asg {T tyi : TypeId} {posi : String} {afti : Array Edge} {s by' : Nat} {z : Value} {row : List Value} {j dj : Nat} {x : Operand}
    (hk : Keeps ⟨P, w0, n, Q⟩ ops ((dj, v) :: e) L (D.filter fun p => !p.2.2 && !waits ops aft p.1) ∧ XL ⟨P, w0, n, Q⟩ ops k i d (fun b => pt b (.cells row.toArray T (0, 0))) (D.filter fun p => !waits ops aft p.1) (j :: vl) ((dj, v) :: e) L)
    (hr2 : readyV ops (i :: vl) = [j] := by rfl) (hoj : ops[j]? = some ⟨some dj, .assign x, ty, pos, aft, none⟩ := by rfl) (ho : ops[i]? = some ⟨some d, .alloc T, tyi, posi, afti, none⟩ := by rfl) [hi : TI P T z s by'] (hz : z.cells = row.toArray := by rfl) (hdn : d < n := by exact Nat.le_of_ble_eq_true rfl)
    (hw : (D.all fun p => !waits ops afti p.1) = true := by kernel_rfl) (hld : (D.all fun p => match ops[p.1]? with | some oj => !(oj.looksAt ops).contains d | none => true) = true := by kernel_rfl) (hdjn : dj < n := by exact Nat.le_of_ble_eq_true rfl) (hdd : (dj == d) = false := by rfl) (hljd : (Oper.looksAt ops ⟨some dj, .assign x, ty, pos, aft, none⟩).contains d = false := by kernel_rfl)
    (hr1 : (readyV ops vl).all (fun x => x == j || x == i) = true := by kernel_rfl) (hr1' : (readyV ops vl).isEmpty = false := by kernel_rfl)
    (hx : ev (restr e (Oper.looksAt ops ⟨some dj, .assign x, ty, pos, aft, none⟩)) x = some v := by rfl) :
    XL ⟨P, w0, n, Q⟩ ops k i d (fun b => pt b (.cells row.toArray T (0, 0))) D vl e L :=
  XL_gen (Φ := fun v' L' => v' = v ∧ L' = L) (Φ' := fun b v' L' => v' = v ∧ L' = pt b (.cells row.toArray T (0, 0)) :: L) ho hi hz hdn hw hld hoj hdjn hdd hljd hr1 hr1' hr2 True.intro (dv_of_rv (rv_of_pv (pv_assign hx))) (fun b => dv_of_rv (rv_of_pv (pv_assign hx))) (fun b v' L2 ⟨h1, h2⟩ => ⟨L, ⟨h1, rfl⟩, by subst h2; exact ⟨fun _ h => h, fun _ h => h⟩⟩) (fun v' L' ⟨h1, h2⟩ => by subst h1 h2; exact hk)
/-- A slot's value, told otherwise. -/
theorem XE_reval {C : Cx} {x : Exit} (t : Nat) {v : Value} (v' : Value) (hk : XE C k x ((t, v') :: e) L) (ht : e.get t = some v := by rfl) (hv : v = v') : XE C k x e L := by
  subst hv
  exact fun tm w h1 h2 h3 => hk tm w h1 (fun s u hs => h2 s u (by rw [← get_same ht]; exact hs)) h3
theorem X_reval {C : Cx} {c : Code} (t : Nat) {v : Value} (v' : Value) (hk : X C k c ((t, v') :: e) L) (ht : e.get t = some v := by rfl) (hv : v = v') : X C k c e L := by
  subst hv
  exact fun tm w h1 h2 h3 => hk tm w h1 (fun s u hs => h2 s u (by rw [← get_same ht]; exact hs)) h3
/-- An element of one cell is stored. -/
theorem dv_put1 {α : Type} {E' : E α} {T by' : Nat} {x y : Operand} {b o oo c : Nat} {xs : List α} {v : Value} {z : Value} (i : Nat) (x' : α) [hti : TI P T z 1 by'] (hx : ev e x = some (.pointer (some ⟨b, oo, none⟩)) := by rfl) (hf : Find L (Sl E' (some ⟨b, o, none⟩) c xs) R := by repeat (first | exact Find.here | apply Find.there)) (hy : ev e y = some v := by rfl)
    (ho : oo = o + i * E'.sz := by rfl) (hl : i < xs.length := by omega) (hc : E'.cells x' = [v] := by rfl) (h1 : v.oneCell' = true := by rfl) (hs1 : E'.sz = 1 := by rfl) : DV P w0 (.store T x y) ty e L (fun _ L' => L' = Sl E' (some ⟨b, o, none⟩) c (xs.set i x') :: R) := by
  subst ho
  have hvc : v.cells.toList = [v] := by cases v <;> first | rfl | (simp [Value.oneCell'] at h1)
  refine dv_putEl (f := 0) (vs := [v]) x' hf hx hy hvc (fun u hu => by simp at hu; subst hu; exact h1) rfl rfl hl (by rw [hs1]; exact Nat.le_refl 1) ?_
  have := E'.len xs[i]
  rw [hs1] at this
  obtain ⟨u, hu⟩ := List.length_eq_one_iff.1 this
  rw [hc, hu]; rfl
theorem run_slice_hm {w : World} (t : TypeId) (a : Option Addr) (len cap : Nat) (ht : P.underlying t = some (.slice (P.elem t))) (kh km : IntKind) (h m : Int) (h0 : 0 ≤ h) (h1 : h ≤ m) (h2 : m ≤ cap) :
    (Instr.slice t (.slice a len cap) none (some (.int kh h)) (some (.int km m))).run P w = ((sizeOf (P.elem t)).run P w).andThen fun s w => .ok (sliced a 0 h.toNat m.toNat s) w := by
  have em : (m.toNat : Int) = m := Int.toNat_of_nonneg (by omega)
  simp [Instr.slice, run_underlying ht, Instr.sliceBounds, run_sliceBound, sliced, *, em, (by omega : 0 ≤ h), (by omega : 0 ≤ m)]
/-- x[:h:m] -/
theorem pv_sliceHM {T el s by' : Nat} {x hi mx : Operand} {z : Value} {a : Option Addr} {len cap : Nat} {kh km : IntKind} {h m : Int} [hu : TU P T (.slice el)] [hti : TI P el z s by'] (hx : ev e x = some (.slice a len cap) := by rfl) (hh : ev e hi = some (.int kh h) := by rfl) (hm : ev e mx = some (.int km m) := by rfl)
    (h0 : 0 ≤ h := by omega) (h1 : h ≤ m := by omega) (h2 : m ≤ (cap : Int) := by omega) : PV P (.slice T x none (some hi) (some mx)) ty e (.slice a h.toNat m.toNat) := fun tm w pos aft ha => by
  have hel : P.elem T = el := by unfold Program.elem; rw [hu.out]
  have hr1 := run_sliceAt_slice (P := P) (w := w) T (.slice a len cap) none (some (.int kh h)) (some (.int km m)) (by rw [hel]; exact hu.out)
  have hr2 := run_slice_hm (P := P) (w := w) T a len cap (by rw [hel]; exact hu.out) kh km h m h0 h1 h2
  have hsz : (sizeOf (P.elem T)).run P w = .ok s w := by rw [hel]; exact run_size hti
  have : sliced a 0 h.toNat m.toNat s = .slice a h.toNat m.toNat := by
    unfold sliced
    cases a <;> simp [Addr.add]
  simp [execOp, ev_sound ha hx, ev_sound ha hh, ev_sound ha hm, hr1, hr2, hsz, this]
end
end Go.Proofs.YtamecmklcnohjaaGreat.Sep
namespace Go.Proofs.YtamecmklcnohjaaGreat.Sep
open Go.RowKit
set_option linter.unusedSimpArgs false
set_option linter.unusedVariables false
theorem SL_true {L : List HP} {H : PH} (h : SL L H) : SL (pur True :: L) H := ⟨fun _ => none, H, fun _ => .inl rfl, fun _ => by simp, trivial, h⟩
/-- A field of a struct that is at hand, of one cell. -/
theorem pv_fieldV {P : Program} {T ft fo bo f : Nat} {ty : TypeId} {e : Env} {x : Operand} {fl : List Field} {vs : List Value} {v : Value} {nm tag pkg : String} {emb : Bool} {dd : TypeDesc} [hu : TU P T (.struct fl.toArray)] (hfd : fl[f]? = some ⟨nm, ft, fo, emb, tag, pkg, bo⟩ := by rfl) (hft : TU P ft dd := by infer_instance) (hg : aggD dd = false := by rfl)
    (hx : ev e x = some (.agg vs.toArray) := by rfl) (hv : vs[fo]? = some v := by rfl) : PV P (.field T x f) ty e v := fun tm w pos aft h => by
  have h2 : (underlying T).run P w = .ok (.struct fl.toArray) w := run_und hu.out
  have h5 : fl.toArray[f]? = some ⟨nm, ft, fo, emb, tag, pkg, bo⟩ := by simpa using hfd
  have h6 : vs.toArray[fo]? = some v := by simpa using hv
  simp [execOp, Instr.field, ev_sound h hx, h2, h5, asAgg, part, run_isAgg hft.out, hg, hv]
section
variable {P : Program} {w0 : World} {e : Env} {L R : List HP} {ty : TypeId}
/-- Some cells of a variable are stored. -/
theorem dv_storeP {T s by' o : Nat} {x y : Operand} {b : Nat} {row row' vs : List Value} {T' : TypeId} {z : Value} [hi : TI P T z s by'] (hx : ev e x = some (.pointer (some ⟨b, o, none⟩)) := by rfl) (hy : ev e y = some (.agg vs.toArray) := by rfl)
    (hf : Find L (pt b (.cells row.toArray T' (0, 0))) R := by repeat (first | exact Find.here | apply Find.there)) (hl : vs.length = s := by rfl) (hr : (o + s ≤ row.length : Bool) = true := by rfl) (h1 : vs.all Value.oneCell' = true := by rfl) (hrow : row.take o ++ vs ++ row.drop (o + s) = row' := by rfl) :
    DV P w0 (.store T x y) ty e L (fun _ L' => L' = pt b (.cells row'.toArray T' (0, 0)) :: R) := dv_of_skip fun tm w pos aft h2 h3 => by
  have h3' := h3.find hf
  have hr' : o + s ≤ row.length := by simpa using hr
  have hrun := run_storeAt (P := P) (v := .agg vs.toArray) (o := o) hi (by simpa [Value.cells] using hl) (by simpa [Value.cells] using h1) h3'.block (by simpa using hr')
  have e1 : (row.toArray.toList.take o ++ (Value.agg vs.toArray).cells.toList ++ row.toArray.toList.drop (o + s)).toArray = row'.toArray := by
    simp [Value.cells, ← hrow]
  rw [e1] at hrun
  exact ⟨w.setRow b row'.toArray, _, by simp only [execOp, ev_sound h2 hx, ev_sound h2 hy, Sem.run_bind, hrun, Result.andThen_ok, Sem.run_pure], rfl, sat_setRow h3'⟩
end
/-- A cursor that lies somewhere: it can be read, and stored. -/
structure Cur (P : Program) (b o : Nat) (en : Int) (A : Int → HP) : Prop where
  load : ∀ {w0 : World} {ty : TypeId} {e : Env} {L R : List HP} {x : Operand} {a : Int}, Find L (A a) R → ev e x = some (.pointer (some ⟨b, o, none⟩)) → RV P w0 (.load 126 x) ty e L (.agg #[.int .u64 a, .int .u64 en])
  load1 : ∀ {w0 : World} {ty : TypeId} {e : Env} {L R : List HP} {x : Operand} {a : Int}, Find L (A a) R → ev e x = some (.pointer (some ⟨b, o, none⟩)) → RV P w0 (.load 32 x) ty e L (.int .u64 a)
  store : ∀ {w0 : World} {ty : TypeId} {e : Env} {L R : List HP} {x y : Operand} {a a' : Int}, Find L (A a) R → ev e x = some (.pointer (some ⟨b, o, none⟩)) → ev e y = some (.agg #[.int .u64 a', .int .u64 en]) → DV P w0 (.store 126 x y) ty e L (fun _ L' => L' = A a' :: R)
  store1 : ∀ {w0 : World} {ty : TypeId} {e : Env} {L R : List HP} {x y : Operand} {a a' : Int}, Find L (A a) R → ev e x = some (.pointer (some ⟨b, o, none⟩)) → ev e y = some (.int .u64 a') → DV P w0 (.store 32 x y) ty e L (fun _ L' => L' = A a' :: R)
theorem Cur.cell (b : Nat) (en : Int) : Cur Tryz.prog b 0 en (fun a => pt b (.cells [.int .u64 a, .int .u64 en].toArray 126 (0, 0))) where
  load := fun hf hx => rv_loadW (hx := hx) (hf := hf)
  load1 := fun hf hx => rv_load (hx := hx) (hf := hf)
  store := fun hf hx hy => dv_storeW (hx := hx) (hy := hy) (hf := hf)
  store1 := fun hf hx hy => dv_store (hx := hx) (hy := hy) (hf := hf)
end Go.Proofs.YtamecmklcnohjaaGreat.Sep
namespace Go.Proofs.YtamecmklcnohjaaGreat.Sep
open Go.RowKit
set_option linter.unusedSimpArgs false
set_option linter.unusedVariables false
/-! what a region would use -/
def ePart : E Part := ⟨4, true, fun p => [.int .i64 p.1, .int .i64 p.2.1, .int .u64 p.2.2.1, .int .u64 p.2.2.2], fun _ => rfl, fun _ _ h => by simp at h; rcases h with rfl | rfl | rfl | rfl <;> rfl, by decide, fun h => by cases h⟩
def Shd (b : Nat) (s : Sh) : HP := fun H => ∃ x : Option Addr × Nat × Option Addr × Nat, SL [pt b (.cells [.slice x.1 s.parts.length x.2.1, .slice x.2.2.1 s.larges.length x.2.2.2, .int .u64 s.obj, .int .u64 s.pad].toArray 121 (0, 0)), Sl ePart x.1 x.2.1 s.parts, Sl eRun x.2.2.1 x.2.2.2 s.larges] H
theorem Shd.open {b : Nat} {s : Sh} : ∀ H, Shd b s H → ∃ x : Option Addr × Nat × Option Addr × Nat, True ∧ SL [pt b (.cells [.slice x.1 s.parts.length x.2.1, .slice x.2.2.1 s.larges.length x.2.2.2, .int .u64 s.obj, .int .u64 s.pad].toArray 121 (0, 0)), Sl ePart x.1 x.2.1 s.parts, Sl eRun x.2.2.1 x.2.2.2 s.larges] H := fun H ⟨x, h⟩ => ⟨x, trivial, h⟩
theorem Shd.fold {b c c' : Nat} {s : Sh} {a a' : Option Addr} : ∀ H, SL [pt b (.cells [.slice a s.parts.length c, .slice a' s.larges.length c', .int .u64 s.obj, .int .u64 s.pad].toArray 121 (0, 0)), Sl ePart a c s.parts, Sl eRun a' c' s.larges] H → Shd b s H := fun H h => ⟨(a, c, a', c'), h⟩
theorem Cur.part (b o c : Nat) (l : List Part) (hl : 0 < l.length) : Cur Tryz.prog b (o + (l.length - 1) * 4 + 2) (lastP l).2.2.2 (fun a => Sl ePart (some ⟨b, o, none⟩) c (setLast l a)) := by
  have hi : l.length - 1 < l.length := by omega
  have hg : ∀ a, (setLast l a)[l.length - 1]? = some ((lastP l).1, (lastP l).2.1, a, (lastP l).2.2.2) := fun a => by simp [setLast, hi]
  have hlen : ∀ a, l.length - 1 < (setLast l a).length := fun a => by rw [setLast_length]; exact hi
  have hgg : ∀ a (h : l.length - 1 < (setLast l a).length), (setLast l a)[l.length - 1] = ((lastP l).1, (lastP l).2.1, a, (lastP l).2.2.2) := fun a h => by simp [setLast]
  have hss : ∀ a a', (setLast l a).set (l.length - 1) ((lastP l).1, (lastP l).2.1, a', (lastP l).2.2.2) = setLast l a' := fun a a' => by simp [setLast]
  refine ⟨fun {_ _ _ _ _ _ a} hf hx => ?_, fun {_ _ _ _ _ _ a} hf hx => ?_, fun {w0 ty _ _ _ _ _ a a'} hf hx hy => ?_, fun {w0 ty _ _ _ _ _ a a'} hf hx hy => ?_⟩
  · exact rv_elS (E' := ePart) (i := l.length - 1) (f := 2) (xs := setLast l a) (vs := [.int .u64 a, .int .u64 (lastP l).2.2.2]) hf hx (hl := hlen a) (hv := by rw [hgg a]; rfl)
  · exact rv_elfG (E' := ePart) (l.length - 1) 2 _ (hf := hf) (hx := hx) (hget := hg a)
  · have := dv_putEl (w0 := w0) (ty := ty) (P := Tryz.prog) (T := 126) (E' := ePart) (i := l.length - 1) (s := 4) (f := 2) (xs := setLast l a) (vs := [.int .u64 a', .int .u64 (lastP l).2.2.2]) ((lastP l).1, (lastP l).2.1, a', (lastP l).2.2.2) hf hx hy rfl (fun u hu => by simp at hu; rcases hu with rfl | rfl <;> rfl) rfl rfl (hlen a) (by show 2 + 2 ≤ 4; omega) (by rw [hgg a]; rfl)
    rw [hss a a'] at this
    exact this
  · have := dv_putEl (w0 := w0) (ty := ty) (P := Tryz.prog) (T := 32) (E' := ePart) (i := l.length - 1) (s := 4) (f := 2) (xs := setLast l a) (vs := [.int .u64 a']) ((lastP l).1, (lastP l).2.1, a', (lastP l).2.2.2) hf hx hy rfl (fun u hu => by simp at hu; subst hu; rfl) rfl rfl (hlen a) (by show 2 + 1 ≤ 4; omega) (by rw [hgg a]; rfl)
    rw [hss a a'] at this
    exact this
attribute [local irreducible] Core
set_option maxHeartbeats 8000000
attribute [local irreducible] X XE XO XD XDi XDa PV RV DV pt base Spec Sl Mp Keeps Pg Kc

/-- The shadow, of which the cursor on top is taken out. -/
def topV (b : Nat) (s : Sh) : Value → List HP → Prop := fun v L => ∃ (cb o : Nat) (A : Int → HP) (G : HP) (a a' : Option Addr) (c c' : Nat), v = .pointer (some ⟨cb, o, none⟩) ∧ Cur Tryz.prog cb o (topEnd s) A ∧
  (∀ at_ obj pad H, SL [pt b (.cells [.slice a s.parts.length c, .slice a' s.larges.length c', .int .u64 obj, .int .u64 pad].toArray 121 (0, 0)), A at_, Sl eRun a' c' s.larges, G] H → Shd b (setTop s at_ obj pad) H) ∧
  L = [pt b (.cells [.slice a s.parts.length c, .slice a' s.larges.length c', .int .u64 s.obj, .int .u64 s.pad].toArray 121 (0, 0)), A (topAt s), Sl eRun a' c' s.larges, G]
theorem top_spec (b : Nat) (s : Sh) (hl : s.parts.length ≤ 4611686018427387904) : Spec Tryz.prog 70 [.pointer (some ⟨b, 0, none⟩)] [Shd b s] (topV b s) := by
  refine Spec.intro (IsEnt.out) Tryz.func70 rfl Tryz.ntmps70 (by simp) (fun w0 F => ?_)
  simp only [envOf, List.zipIdx, List.map, List.cons_append, List.nil_append, Nat.zero_add, Nat.reduceAdd]
  unfold topV
  refine X_open .here Shd.open ?_
  rintro ⟨a, c, a', c'⟩ -
  dsimp only [List.cons_append, List.nil_append]
  repeat (first | refine Zq ?_ | refine Zs ?_ | refine ZT ?_ | refine ZF ?_ | refine Zc ?_ | refine XO_gU (hk := ?_))
  refine X_cond rfl (fun h => ?_) (fun h => ?_)
  · have h0 : s.parts = [] := by
      have : ((s.parts.length : Int) == 0) = true := h
      exact List.length_eq_zero_iff.1 (by simpa using this)
    repeat (first | refine Zq ?_ | refine Zs ?_ | refine ZT ?_ | refine ZF ?_ | refine Zc ?_ | refine XO_gU (hk := ?_))
    refine XO_dv dv_box (hk := ?_)
    rintro _ _ ⟨cb, rfl, rfl⟩
    repeat (first | refine Zq ?_ | refine Zs ?_ | refine ZT ?_ | refine ZF ?_ | refine Zc ?_ | refine XO_gU (hk := ?_))
    refine XE_ret (.inl rfl) (tells_tmps rfl rfl) ⟨_, ⟨cb, 0, fun x => pt cb (.cells [.int .u64 x, .int .u64 0].toArray 126 (0, 0)), Sl ePart a c s.parts, a, a', c, c', rfl, ?_, ?_, rfl⟩, ?_⟩
    · have he : topEnd s = 0 := by unfold topEnd; rw [h0]; rfl
      rw [he]
      exact Cur.cell cb 0
    · intro at_ obj pad H hs
      have hst : setTop s at_ obj pad = ⟨s.parts, s.larges, obj, pad⟩ := by unfold setTop; rw [h0]; rfl
      rw [hst]
      refine Shd.fold (s := ⟨s.parts, s.larges, obj, pad⟩) (a := a) (c := c) (a' := a') (c' := c') H ?_
      revert H
      intro H hs
      refine (show ∀ H, SL _ H → SL _ H from ?_) H hs
      ((try simp only [List.cons_append, List.nil_append]); repeat (first | exact ent_refl | refine ent_take (by repeat (first | exact Find.here | apply Find.there)) ?_ | refine ent_drop ?_))
    · have ht : topAt s = 0 := by unfold topAt; rw [h0]; rfl
      rw [ht]
      ((try simp only [List.cons_append, List.nil_append]); repeat (first | exact ent_refl | refine ent_take (by repeat (first | exact Find.here | apply Find.there)) ?_ | refine ent_drop ?_))
  · have h0 : 0 < s.parts.length := by
      have : ((s.parts.length : Int) == 0) = false := h
      have : ¬ (s.parts.length : Int) = 0 := by simpa using this
      omega
    refine X_slopen (E' := ePart) (a := a) (c := c) (xs := s.parts) (by (repeat (first | exact Find.here | apply Find.there))) h0 ?_
    rintro qb o rfl
    repeat (first | refine Zq ?_ | refine Zs ?_ | refine ZT ?_ | refine ZF ?_ | refine Zc ?_ | refine XO_gU (hk := ?_))
    repeat (first | refine XD_pick (h := ?_) | refine Dq ?_ | refine Ds ?_ | refine XDi_gF (h := ?_) | refine XDi_gU (h := ?_) | refine X_draws (h := ?_))
    (refine XD_one (h := ?_); refine XDa_dvA (dv_of_rv (rv_of_pv pv_assign)) (hk := ?_); rintro _ _ ⟨rfl, rfl⟩; refine ⟨by (repeat (first | exact keeps_nil | exact keeps_fnil | refine keeps_skip (h := ?_) | refine keeps_takeQ (h := ?_))), ?_⟩)
    (refine XD_end (h := ?_); repeat (first | refine Zq ?_ | refine Zs ?_ | refine ZT ?_ | refine ZF ?_ | refine Zc ?_ | refine XO_gU (hk := ?_)))
    have hto : ((s.parts.length : Int) - 1).toNat = s.parts.length - 1 := by omega
    have hself : setLast s.parts (topAt s) = s.parts := setLast_self _
    simp only [hto]
    refine XE_conv (fun _ => SL_true) ?_
    refine XE_ret (.inl rfl) (tells_tmps rfl rfl) ⟨_, ⟨qb, o + (s.parts.length - 1) * 4 + 2, fun x => Sl ePart (some ⟨qb, o, none⟩) c (setLast s.parts x), pur True, some ⟨qb, o, none⟩, a', c, c', rfl, Cur.part qb o c s.parts h0, ?_, rfl⟩, ?_⟩
    · intro at_ obj pad H hs
      unfold setTop
      refine Shd.fold (s := ⟨setLast s.parts at_, s.larges, obj, pad⟩) (a := some ⟨qb, o, none⟩) (c := c) (a' := a') (c' := c') H ?_
      dsimp only
      rw [setLast_length]
      refine (show ∀ H, SL _ H → SL _ H from ?_) H hs
      ((try simp only [List.cons_append, List.nil_append]); repeat (first | exact ent_refl | refine ent_take (by repeat (first | exact Find.here | apply Find.there)) ?_ | refine ent_drop ?_))
    · dsimp only
      rw [hself]
      ((try simp only [List.cons_append, List.nil_append]); repeat (first | exact ent_refl | refine ent_take (by repeat (first | exact Find.here | apply Find.there)) ?_ | refine ent_drop ?_))
end Go.Proofs.YtamecmklcnohjaaGreat.Sep
namespace Go.Proofs.YtamecmklcnohjaaGreat.Sep
open Go.RowKit
set_option linter.unusedSimpArgs false
set_option linter.unusedVariables false
attribute [local irreducible] Core Shd
set_option maxHeartbeats 8000000
attribute [local irreducible] X XE XO XD XDi XDa PV RV DV pt base Spec Sl Mp Keeps Pg Kc

def shRow (a a' : Option Addr) (m m' c c' : Nat) (obj pad : Int) : List Value := [.slice a m c, .slice a' m' c', .int .u64 obj, .int .u64 pad]
def madeV (b : Nat) (a a' : Option Addr) (m m' c c' : Nat) (obj pad size at_ : Int) (A : Int → HP) : Option (Int × Int × Int) → Value → List HP → Prop
  | none => fun v L => v = .bool false ∧ L = [pt b (.cells [.slice a m c, .slice a' m' c', .int .u64 obj, .int .u64 pad].toArray 121 (0, 0)), A at_]
  | some q => fun v L => v = .bool true ∧ L = [pt b (.cells [.slice a m c, .slice a' m' c', .int .u64 (IntKind.u64.wrap (obj + size)), .int .u64 (IntKind.u64.wrap (pad + q.2.2))].toArray 121 (0, 0)), A q.2.1]
theorem made_spec (b cb o : Nat) (en : Int) (A : Int → HP) (hA : Cur Tryz.prog cb o en A) (a a' : Option Addr) (m m' c c' : Nat) (obj pad at_ size align : Int) (g0 : 0 ≤ at_) (g1 : at_ ≤ 18446744073709551615) (g2 : 0 ≤ en) (g3 : en ≤ 18446744073709551615) (h0 : 0 ≤ size) (h1 : size ≤ 18446744073709551615) (h2 : 0 ≤ align) (h3 : align ≤ 18446744073709551615) :
    Spec Tryz.prog 69 [.pointer (some ⟨b, 0, none⟩), .pointer (some ⟨cb, o, none⟩), .int .u64 size, .int .u64 align] [pt b (.cells [.slice a m c, .slice a' m' c', .int .u64 obj, .int .u64 pad].toArray 121 (0, 0)), A at_]
      (madeV b a a' m m' c c' obj pad size at_ A (fitI at_ en size align)) := by
  refine Spec.intro (IsEnt.out) Tryz.func69 rfl Tryz.ntmps69 (by simp) (fun w0 F => ?_)
  simp only [envOf, List.zipIdx, List.map, List.cons_append, List.nil_append, Nat.zero_add, Nat.reduceAdd]
  repeat (first | refine Zq ?_ | refine Zs ?_ | refine ZT ?_ | refine ZF ?_ | refine Zc ?_ | refine XO_gU (hk := ?_))
  refine XO_rv (hA.load (by (repeat (first | exact Find.here | apply Find.there))) rfl) (hk := ?_)
  repeat (first | refine Zq ?_ | refine Zs ?_ | refine ZT ?_ | refine ZF ?_ | refine Zc ?_ | refine XO_gU (hk := ?_))
  refine XO_call (fit_spec at_ en size align g0 g1 g2 g3 h0 h1 h2 h3) (hk := ?_)
  rintro _ _ ⟨rfl, rfl⟩
  cases hf : fitI at_ en size align with
  | none =>
    repeat (first | refine Zq ?_ | refine Zs ?_ | refine ZT ?_ | refine ZF ?_ | refine Zc ?_ | refine XO_gU (hk := ?_))
    (refine XO_dv dv_alloc (hk := ?_); rintro _ _ ⟨cb, rfl, rfl⟩; (repeat (first | refine Zq ?_ | refine Zs ?_ | refine ZT ?_ | refine ZF ?_ | refine Zc ?_ | refine XO_gU (hk := ?_))); refine XO_dv0 dv_storeW (hk := ?_); rintro _ _ rfl; (repeat (first | refine Zq ?_ | refine Zs ?_ | refine ZT ?_ | refine ZF ?_ | refine Zc ?_ | refine XO_gU (hk := ?_))))
    refine X_cond rfl (fun h => by cases h) (fun _ => ?_)
    repeat (first | refine Zq ?_ | refine Zs ?_ | refine ZT ?_ | refine ZF ?_ | refine Zc ?_ | refine XO_gU (hk := ?_))
    refine XE_ret (.inl rfl) (tells_tmps rfl rfl) ⟨_, ⟨rfl, rfl⟩, by ((try simp only [List.cons_append, List.nil_append]); repeat (first | exact ent_refl | refine ent_take (by repeat (first | exact Find.here | apply Find.there)) ?_ | refine ent_drop ?_))⟩
  | some q =>
    obtain ⟨st, e2, p⟩ := q
    repeat (first | refine Zq ?_ | refine Zs ?_ | refine ZT ?_ | refine ZF ?_ | refine Zc ?_ | refine XO_gU (hk := ?_))
    (refine XO_dv dv_alloc (hk := ?_); rintro _ _ ⟨cb, rfl, rfl⟩; (repeat (first | refine Zq ?_ | refine Zs ?_ | refine ZT ?_ | refine ZF ?_ | refine Zc ?_ | refine XO_gU (hk := ?_))); refine XO_dv0 dv_storeW (hk := ?_); rintro _ _ rfl; (repeat (first | refine Zq ?_ | refine Zs ?_ | refine ZT ?_ | refine ZF ?_ | refine Zc ?_ | refine XO_gU (hk := ?_))))
    refine X_cond rfl (fun _ => ?_) (fun h => by cases h)
    repeat (first | refine Zq ?_ | refine Zs ?_ | refine ZT ?_ | refine ZF ?_ | refine Zc ?_ | refine XO_gU (hk := ?_))
    refine XO_dv0 (hA.store (a' := e2) (by (repeat (first | exact Find.here | apply Find.there))) rfl rfl) (hk := ?_)
    rintro _ _ rfl
    repeat (first | refine Zq ?_ | refine Zs ?_ | refine ZT ?_ | refine ZF ?_ | refine Zc ?_ | refine XO_gU (hk := ?_))
    refine XO_dv0 dv_store (hk := ?_)
    rintro _ _ rfl
    repeat (first | refine Zq ?_ | refine Zs ?_ | refine ZT ?_ | refine ZF ?_ | refine Zc ?_ | refine XO_gU (hk := ?_))
    refine XO_dv0 dv_store (hk := ?_)
    rintro _ _ rfl
    repeat (first | refine Zq ?_ | refine Zs ?_ | refine ZT ?_ | refine ZF ?_ | refine Zc ?_ | refine XO_gU (hk := ?_))
    refine XE_ret (.inl rfl) (tells_tmps rfl rfl) ⟨_, ⟨rfl, rfl⟩, by ((try simp only [List.cons_append, List.nil_append]); repeat (first | exact ent_refl | refine ent_take (by repeat (first | exact Find.here | apply Find.there)) ?_ | refine ent_drop ?_))⟩
end Go.Proofs.YtamecmklcnohjaaGreat.Sep
namespace Go.Proofs.YtamecmklcnohjaaGreat.Sep
open Go.RowKit
set_option linter.unusedSimpArgs false
set_option linter.unusedVariables false
/-! entries of a list of pairs; assertions, one for each of some things -/
section
variable {κ α β : Type} [DecidableEq κ]
theorem lk_map (f : α → β) (k : κ) : ∀ l : List (κ × α), lk (l.map fun q => (q.1, f q.2)) k = (lk l k).map f
  | [] => rfl
  | (k', v) :: l => by
    have ih := lk_map f k l
    simp only [List.map_cons, lk]
    split
    · rfl
    · exact ih
theorem lk_split {k : κ} {v : α} : ∀ {l : List (κ × α)}, lk l k = some v → ∃ l1 l2, l = l1 ++ (k, v) :: l2 ∧ lk l1 k = none
  | [], h => by cases h
  | (k', v') :: l, h => by
    simp only [lk] at h
    split at h
    · rename_i he
      cases h
      exact ⟨[], l, by rw [he]; rfl, rfl⟩
    · rename_i he
      obtain ⟨l1, l2, rfl, h1⟩ := lk_split h
      exact ⟨(k', v') :: l1, l2, rfl, by simp only [lk]; rw [if_neg he]; exact h1⟩
theorem lk_mid {k : κ} {v : α} : ∀ {l1 l2 : List (κ × α)}, lk l1 k = none → lk (l1 ++ (k, v) :: l2) k = some v
  | [], l2, _ => by simp [lk]
  | (k', u) :: l1, l2, h => by
    simp only [lk] at h
    split at h
    · cases h
    · rename_i he
      simp only [List.cons_append, lk, if_neg he, lk_mid h]
theorem ins_split {k : κ} {v v' : α} : ∀ {l1 l2 : List (κ × α)}, lk l1 k = none → ins (l1 ++ (k, v) :: l2) k v' = l1 ++ (k, v') :: l2
  | [], l2, _ => by simp [ins]
  | (k', u) :: l1, l2, h => by
    simp only [lk] at h
    split at h
    · cases h
    · rename_i he
      simp only [List.cons_append, ins, if_neg he, ins_split h]
theorem del_split {k : κ} {v : α} : ∀ {l1 l2 : List (κ × α)}, lk l1 k = none → del (l1 ++ (k, v) :: l2) k = l1 ++ l2
  | [], l2, _ => by simp [del]
  | (k', u) :: l1, l2, h => by
    simp only [lk] at h
    split at h
    · cases h
    · rename_i he
      simp only [List.cons_append, del, if_neg he, del_split h]
theorem ins_new {k : κ} {v : α} : ∀ {l : List (κ × α)}, lk l k = none → ins l k v = l ++ [(k, v)]
  | [], _ => rfl
  | (k', u) :: l, h => by
    simp only [lk] at h
    split at h
    · cases h
    · rename_i he
      simp only [List.cons_append, ins, if_neg he, ins_new h]
end
/-- Assertions, as one. -/
def SLA (L : List HP) : HP := fun H => SL L H
theorem SL_pack {A : HP} {L : List HP} : ∀ H, SL (A :: L) H → SL [A, SLA L] H := fun H ⟨H1, H2, d, u, hA, hL⟩ => ⟨H1, H2, d, u, hA, H2, fun _ => none, fun _ => .inr rfl, fun _ => by simp, hL, trivial⟩
theorem SL_unpack {A : HP} {L : List HP} : ∀ H, SL [A, SLA L] H → SL (A :: L) H := fun H ⟨H1, H2, d, u, hA, H3, H4, d', u', hL, _⟩ => ⟨H1, H2, d, u, hA, SL.weaken (fun b o hb => by rw [u' b, hb]; rfl) hL⟩
/-- One assertion for each. -/
def Star {β : Type} (f : β → HP) (M : List β) : HP := SLA (M.map f)
theorem find_mid' {β : Type} (f : β → HP) (q : β) : ∀ (M1 M2 : List β), Find ((M1 ++ q :: M2).map f) (f q) ((M1 ++ M2).map f)
  | [], M2 => .here
  | _ :: M1, M2 => .there (find_mid' f q M1 M2)
theorem Star.out {β : Type} {f : β → HP} {q : β} {M1 M2 : List β} : ∀ H, Star f (M1 ++ q :: M2) H → ∃ x : Unit, True ∧ SL [f q, Star f (M1 ++ M2)] H := fun H h => ⟨(), trivial, SL_pack H ((find_mid' f q M1 M2).fwd h)⟩
theorem Star.back {β : Type} {f : β → HP} {q : β} {M1 M2 : List β} : ∀ H, SL [f q, Star f (M1 ++ M2)] H → Star f (M1 ++ q :: M2) H := fun H h => (find_mid' f q M1 M2).bwd (SL_unpack H h)
theorem Star.add {β : Type} {f : β → HP} {q : β} {M : List β} : ∀ H, SL [f q, Star f M] H → Star f (M ++ [q]) H := fun H h => by
  have := Star.back (f := f) (q := q) (M1 := M) (M2 := []) H
  rw [List.append_nil] at this
  exact this h
theorem Star.nil {β : Type} {f : β → HP} {L : List HP} {H : PH} (h : SL L H) : SL (Star f [] :: L) H := ⟨fun _ => none, H, fun _ => .inl rfl, fun _ => by simp, trivial, h⟩
end Go.Proofs.YtamecmklcnohjaaGreat.Sep
namespace Go.Proofs.YtamecmklcnohjaaGreat.Sep
open Go.RowKit
set_option linter.unusedSimpArgs false
set_option linter.unusedVariables false
/-! regions by their numbers -/
def shOf (q : Int × Nat × Sh) : HP := Shd q.2.1 q.2.2
/-- The shadows of some regions. -/
def Shs (M : List (Int × Nat × Sh)) : HP := SLA (M.map shOf)
theorem find_mid (q : Int × Nat × Sh) : ∀ (M1 M2 : List (Int × Nat × Sh)), Find ((M1 ++ q :: M2).map shOf) (shOf q) ((M1 ++ M2).map shOf)
  | [], M2 => .here
  | _ :: M1, M2 => .there (find_mid q M1 M2)
theorem Shs.out {id : Int} {b : Nat} {s : Sh} {M1 M2 : List (Int × Nat × Sh)} : ∀ H, Shs (M1 ++ (id, b, s) :: M2) H → ∃ x : Unit, True ∧ SL [Shd b s, Shs (M1 ++ M2)] H := fun H h => ⟨(), trivial, SL_pack H ((find_mid (id, b, s) M1 M2).fwd h)⟩
theorem Shs.back {id : Int} {b : Nat} {s : Sh} {M1 M2 : List (Int × Nat × Sh)} : ∀ H, SL [Shd b s, Shs (M1 ++ M2)] H → Shs (M1 ++ (id, b, s) :: M2) H := fun H h => (find_mid (id, b, s) M1 M2).bwd (SL_unpack H h)
theorem Shs.add {id : Int} {b : Nat} {s : Sh} {M : List (Int × Nat × Sh)} : ∀ H, SL [Shd b s, Shs M] H → Shs (M ++ [(id, b, s)]) H := fun H h => by
  have := Shs.back (id := id) (b := b) (s := s) (M1 := M) (M2 := []) H
  rw [List.append_nil] at this
  exact this h
theorem Shs.nil {L : List HP} {H : PH} (h : SL L H) : SL (Shs [] :: L) H := ⟨fun _ => none, H, fun _ => .inl rfl, fun _ => by simp, trivial, h⟩
def blk (M : List (Int × Nat × Sh)) : List (Int × Option Nat) := M.map fun q => (q.1, some q.2.1)
def rgs (M : List (Int × Nat × Sh)) : List (Int × Sh) := M.map fun q => (q.1, q.2.2)
theorem lk_blk (M : List (Int × Nat × Sh)) (id : Int) : lk (blk M) id = (lk M id).map fun q => some q.1 := lk_map (fun q : Nat × Sh => some q.1) id M
theorem lk_rgs (M : List (Int × Nat × Sh)) (id : Int) : lk (rgs M) id = (lk M id).map (·.2) := lk_map (fun q : Nat × Sh => q.2) id M
/-- A ledger: its pages, and what its regions would use. -/
def Lg (l : Nat) (C : Co) (rg : List (Int × Sh)) : HP := fun H => ∃ x : Nat × List (Int × Nat × Sh), rgs x.2 = rg ∧ SL [Core l x.1 C, Mp idE ptV x.1 (blk x.2), Shs x.2] H
theorem Lg.open {l : Nat} {C : Co} {rg : List (Int × Sh)} : ∀ H, Lg l C rg H → ∃ x : Nat × List (Int × Nat × Sh), rgs x.2 = rg ∧ SL [Core l x.1 C, Mp idE ptV x.1 (blk x.2), Shs x.2] H := fun H h => h
theorem Lg.fold {l mb : Nat} {C : Co} {rg : List (Int × Sh)} {M : List (Int × Nat × Sh)} (h : rgs M = rg) : ∀ H, SL [Core l mb C, Mp idE ptV mb (blk M), Shs M] H → Lg l C rg H := fun H hs => ⟨(mb, M), h, hs⟩
attribute [local irreducible] Core Shd Shs Lg
set_option maxHeartbeats 8000000
attribute [local irreducible] X XE XO XD XDi XDa PV RV DV pt base Spec Sl Mp Keeps Pg Kc

theorem of_spec (l mb : Nat) (C : Co) (ml : List (Int × Option Nat)) (id : Int) : Spec Tryz.prog 58 [.pointer (some ⟨l, 0, none⟩), .int .u64 id] [Core l mb C, Mp idE ptV mb ml] (fun v L => v = ptV ((lk ml id).getD none) ∧ L = [Core l mb C, Mp idE ptV mb ml]) := by
  refine Spec.intro (IsEnt.out) Tryz.func58 rfl Tryz.ntmps58 (by simp) (fun w0 F => ?_)
  simp only [envOf, List.zipIdx, List.map, List.cons_append, List.nil_append, Nat.zero_add, Nat.reduceAdd]
  repeat (first | refine Zq ?_ | refine Zs ?_ | refine ZT ?_ | refine ZF ?_ | refine Zc ?_ | refine XO_gU (hk := ?_))
  refine X_cond rfl (fun h => by cases h) (fun _ => ?_)
  refine X_open .here Core.open ?_
  rintro ⟨pb, kb, t⟩ -
  dsimp only [List.cons_append, List.nil_append]
  repeat (first | refine Zq ?_ | refine Zs ?_ | refine ZT ?_ | refine ZF ?_ | refine Zc ?_ | refine XO_gU (hk := ?_))
  refine XO_rv (rv_lookup (ke := idE) (ve := ptV) (kk := id) (d0 := none)) (hk := ?_)
  repeat (first | refine Zq ?_ | refine Zs ?_ | refine ZT ?_ | refine ZF ?_ | refine Zc ?_ | refine XO_gU (hk := ?_))
  refine XE_fold (by repeat (first | exact FindAll.nil | exact Find.here | apply Find.there | apply FindAll.cons)) (Core.fold (C := C)) ?_
  refine XE_ret (.inl rfl) (tells_tmps rfl rfl) ⟨_, ⟨rfl, rfl⟩, by ((try simp only [List.cons_append, List.nil_append]); repeat (first | exact ent_refl | refine ent_take (by repeat (first | exact Find.here | apply Find.there)) ?_ | refine ent_drop ?_))⟩
def beginV (l : Nat) (C : Co) (rg : List (Int × Sh)) (id : Int) : Value → List HP → Prop :=
  if (lk rg id).isSome = true then fun v L => v = .bool false ∧ L = [Lg l C rg] else fun v L => v = .bool true ∧ L = [Lg l C (rg ++ [(id, emptySh)])]
theorem begin_spec (l : Nat) (C : Co) (rg : List (Int × Sh)) (id : Int) : Spec Tryz.prog 17 [.pointer (some ⟨l, 0, none⟩), .int .u64 id] [Lg l C rg] (beginV l C rg id) := by
  refine Spec.intro (IsEnt.out) Tryz.func17 rfl Tryz.ntmps17 (by simp) (fun w0 F => ?_)
  simp only [envOf, List.zipIdx, List.map, List.cons_append, List.nil_append, Nat.zero_add, Nat.reduceAdd]
  refine X_open .here Lg.open ?_
  rintro ⟨mb, M⟩ hM
  dsimp only [List.cons_append, List.nil_append] at hM ⊢
  repeat (first | refine Zq ?_ | refine Zs ?_ | refine ZT ?_ | refine ZF ?_ | refine Zc ?_ | refine XO_gU (hk := ?_))
  refine XO_call (of_spec l mb C (blk M) id) (hk := ?_)
  rintro _ _ ⟨rfl, rfl⟩
  rw [lk_blk]
  cases hk : lk M id with
  | some q =>
    have hrg : (lk rg id).isSome = true := by rw [← hM, lk_rgs, hk]; rfl
    have hP : beginV l C rg id = fun v L => v = .bool false ∧ L = [Lg l C rg] := by unfold beginV; rw [if_pos hrg]
    rw [hP]
    simp only [Option.map_some, Option.getD_some, ptV]
    repeat (first | refine Zq ?_ | refine Zs ?_ | refine ZT ?_ | refine ZF ?_ | refine Zc ?_ | refine XO_gU (hk := ?_))
    refine X_cond rfl (fun _ => ?_) (fun h => by cases h)
    repeat (first | refine Zq ?_ | refine Zs ?_ | refine ZT ?_ | refine ZF ?_ | refine Zc ?_ | refine XO_gU (hk := ?_))
    refine XE_fold (by repeat (first | exact FindAll.nil | exact Find.here | apply Find.there | apply FindAll.cons)) (Lg.fold hM) ?_
    refine XE_ret (.inl rfl) (tells_tmps rfl rfl) ⟨_, ⟨rfl, rfl⟩, by ((try simp only [List.cons_append, List.nil_append]); repeat (first | exact ent_refl | refine ent_take (by repeat (first | exact Find.here | apply Find.there)) ?_ | refine ent_drop ?_))⟩
  | none =>
    have hrg : ¬ (lk rg id).isSome = true := by rw [← hM, lk_rgs, hk]; simp
    have hP : beginV l C rg id = fun v L => v = .bool true ∧ L = [Lg l C (rg ++ [(id, emptySh)])] := by unfold beginV; rw [if_neg hrg]
    rw [hP]
    simp only [Option.map_none, Option.getD_none, ptV]
    repeat (first | refine Zq ?_ | refine Zs ?_ | refine ZT ?_ | refine ZF ?_ | refine Zc ?_ | refine XO_gU (hk := ?_))
    refine X_cond rfl (fun h => by cases h) (fun _ => ?_)
    refine X_open (A := Core l mb C) (by (repeat (first | exact Find.here | apply Find.there))) Core.open ?_
    rintro ⟨pb, kb, t⟩ -
    dsimp only [List.cons_append, List.nil_append]
    repeat (first | refine Zq ?_ | refine Zs ?_ | refine ZT ?_ | refine ZF ?_ | refine Zc ?_ | refine XO_gU (hk := ?_))
    refine XO_dv dv_box (hk := ?_)
    rintro _ _ ⟨nb, rfl, rfl⟩
    repeat (first | refine Zq ?_ | refine Zs ?_ | refine ZT ?_ | refine ZF ?_ | refine Zc ?_ | refine XO_gU (hk := ?_))
    refine XO_dv0 (dv_mapUpdate (ke := idE) (ve := ptV) (l := blk M) (kk := id) (v := some nb)) (hk := ?_)
    rintro _ _ rfl
    have hins : ins (blk M) id (some nb) = blk (M ++ [(id, nb, emptySh)]) := by
      rw [ins_new (by rw [lk_blk, hk]; rfl)]; simp [blk]
    have hrg2 : rgs (M ++ [(id, nb, emptySh)]) = rg ++ [(id, emptySh)] := by rw [← hM]; simp [rgs]
    rw [hins]
    repeat (first | refine Zq ?_ | refine Zs ?_ | refine ZT ?_ | refine ZF ?_ | refine Zc ?_ | refine XO_gU (hk := ?_))
    refine XE_conv (fun _ => SL_nilSl eRun) ?_
    refine XE_conv (fun _ => SL_nilSl ePart) ?_
    refine XE_fold (by repeat (first | exact FindAll.nil | exact Find.here | apply Find.there | apply FindAll.cons)) (Shd.fold (b := nb) (s := emptySh) (a := none) (c := 0) (a' := none) (c' := 0)) ?_
    refine XE_fold (by repeat (first | exact FindAll.nil | exact Find.here | apply Find.there | apply FindAll.cons)) (Shs.add (id := id) (M := M)) ?_
    refine XE_fold (by repeat (first | exact FindAll.nil | exact Find.here | apply Find.there | apply FindAll.cons)) (Core.fold (C := C)) ?_
    refine XE_fold (by repeat (first | exact FindAll.nil | exact Find.here | apply Find.there | apply FindAll.cons)) (Lg.fold hrg2) ?_
    refine XE_ret (.inl rfl) (tells_tmps rfl rfl) ⟨_, ⟨rfl, rfl⟩, by ((try simp only [List.cons_append, List.nil_append]); repeat (first | exact ent_refl | refine ent_take (by repeat (first | exact Find.here | apply Find.there)) ?_ | refine ent_drop ?_))⟩
end Go.Proofs.YtamecmklcnohjaaGreat.Sep
