import Derived.Test.YtamecmklcnohjaaGreatBn9
import Derived.Test.YtamecmklcnohjaaGreatBn12
import Derived.Test.YtamecmklcnohjaaGreatBn10
import Derived.Test.YtamecmklcnohjaaGreatBn1
import Derived.RangeFuncRecord
import Derived.TacticsIn
import Derived.Test.YtamecmklcnohjaaGreatBn7
import Derived.Test.YtamecmklcnohjaaGreatBn3
import Derived.Test.YtamecmklcnohjaaGreatBn6
import Derived.Test.YtamecmklcnohjaaGreatBn5
/- What the laws share: a separation logic over the model, and what the program's functions do, by it. Part 13 of 15: High ArCut Ord Rng Backw DelF OrdW DropW. -/
namespace Go.Proofs.YtamecmklcnohjaaGreat.Sep
open Go.RowKit
set_option linter.unusedSimpArgs false
set_option linter.unusedVariables false
theorem cnt_lo {P x : Int} : ∀ {l : List (Int × Int)} {lo : Int}, RightFrom P lo l → x < lo → cnt x l = 0
  | [], _, _, _ => rfl
  | r :: l, lo, ⟨h1, h2, h3, h4⟩, hx => by
    have := cnt_lo h4 (x := x) (by omega)
    have h0 : ind x r = 0 := by unfold ind; rw [if_neg (by omega)]
    simp only [cnt]; omega
theorem span {P a b : Int} (hab : a < b) : ∀ {l : List (Int × Int)} {lo : Int}, RightFrom P lo l → (∀ x, a ≤ x → x < b → 1 ≤ cnt x l) → ∃ r ∈ l, r.1 ≤ a ∧ b ≤ r.1 + r.2
  | [], _, _, h => by have := h a (Int.le_refl _) hab; simp [cnt] at this
  | r :: l, lo, ⟨h1, h2, h3, h4⟩, h => by
    by_cases ha : r.1 + r.2 ≤ a
    · obtain ⟨q, hq, h5⟩ := span hab h4 (fun x hx hxb => by
        have := h x hx hxb
        have h0 : ind x r = 0 := by unfold ind; rw [if_neg (by omega)]
        simp only [cnt] at this; omega)
      exact ⟨q, by simp [hq], h5⟩
    · have h6 : r.1 ≤ a := by
        by_cases h7 : r.1 ≤ a
        · exact h7
        · exfalso
          have h8 := h a (Int.le_refl _) hab
          have h0 : ind a r = 0 := by unfold ind; rw [if_neg (by omega)]
          have := cnt_lo h4 (x := a) (by omega)
          simp only [cnt] at h8; omega
      refine ⟨r, by simp, h6, ?_⟩
      by_cases h7 : b ≤ r.1 + r.2
      · exact h7
      · exfalso
        have h8 := h (r.1 + r.2) (by omega) (by omega)
        have h0 : ind (r.1 + r.2) r = 0 := by unfold ind; rw [if_neg (by omega)]
        have := cnt_lo h4 (x := r.1 + r.2) (by omega)
        simp only [cnt] at h8; omega
theorem start0 {P : Int} : ∀ {l : List (Int × Int)} {lo : Int}, RightFrom P lo l → ∀ r ∈ l, cnt (r.1 - 1) l = 0
  | [], _, _, r, hr => by cases hr
  | q :: l, lo, ⟨h1, h2, h3, h4⟩, r, hr => by
    rcases List.mem_cons.1 hr with rfl | hr
    · have h0 : ind (r.1 - 1) r = 0 := by unfold ind; rw [if_neg (by omega)]
      have := cnt_lo h4 (x := r.1 - 1) (by omega)
      simp only [cnt]; omega
    · have hm := rf_mem h4 r hr
      have h0 : ind (r.1 - 1) q = 0 := by unfold ind; rw [if_neg (by omega)]
      have := start0 h4 r hr
      simp only [cnt]; omega
def HW (C : Co) (B : Int) : Prop := ∀ x, B ≤ x → x < C.P → 1 ≤ cnt x C.fr
theorem HW.up {C : Co} {B B' : Int} (h : HW C B) (hB : B ≤ B') : HW C B' := fun x h1 h2 => h x (by omega) h2
theorem hw_trim {C : Co} {m : Int → Int} {got : List (Int × Hd)} {B : Int} (h : KInv C m got) (hw : HW C B) : HW (trimC C) B := fun x h1 h2 => by
  obtain ⟨-, g2, -⟩ := trim_inv h.ci h.le
  have h3 : cC x (trimC C) = cnt x (trimC C).fr := by
    show cnt x (trimC C).fr + cnt x (kall (fun _ => []) 7) = _
    rw [kall_nil]; simp [cnt]
  have h4 := g2 x
  rw [h3] at h4
  have h5 := hw x h1 h2
  have h6 := cnt_nn x (kall C.ks 7)
  unfold cC at h4
  omega
theorem take_hw {C : Co} {n B : Int} (hC : CoOk C) (hw : HW C B) (h0 : 0 ≤ B) (hn : 1 ≤ n) : HW (takeC C n).1 (B + n) := by
  unfold takeC
  rw [if_neg (by omega)]
  cases ht : takeI C.fr n with
  | none => exact hw.up (by omega)
  | some q =>
    obtain ⟨p, ys⟩ := q
    obtain ⟨g1, g2, g3, g4, g5, g6⟩ := takeI_right hC.right ht
    have hp : ∃ r ∈ C.fr, p = r.1 := by
      unfold takeI at ht
      cases hb : bestU C.fr n C.fr.length with
      | none => rw [hb] at ht; cases ht
      | some i =>
        rw [hb, Option.map_some, Option.some.injEq] at ht
        have hi := bestU_lt hb
        have hg : C.fr.getD i (0, 0) = C.fr[i] := by simp [List.getD, hi]
        have hp : p = (C.fr.getD i (0, 0)).1 := by rw [takeAt] at ht; exact (Prod.mk.inj ht).1.symm
        rw [hg] at hp
        exact ⟨_, List.getElem_mem hi, hp⟩
    obtain ⟨r, hr, hp⟩ := hp
    have hs := start0 hC.right r hr
    have hle : p ≤ B := by
      by_cases hle : p ≤ B
      · exact hle
      · exfalso
        have := hw (r.1 - 1) (by omega) (by omega)
        omega
    intro x h1 h2
    have h3 := g5 x
    have h4 : ind x (p, n) = 0 := by unfold ind; rw [if_neg]; simp only; omega
    have h5 := hw x (by omega) h2
    show 1 ≤ cnt x ys
    omega
theorem hw_get {C : Co} {m : Int → Int} {got : List (Int × Hd)} {B n : Int} (h : KInv C m got) (hw : HW C B) (h0 : 0 ≤ B) (hn : 1 ≤ n) (hB : B + n ≤ C.P) : (getC C n).2.2 = 0 ∧ HW (getC C n).1 (B + n) := by
  constructor
  · by_cases hz : (getC C n).2.2 = 0
    · exact hz
    · exfalso
      obtain ⟨-, -, h3⟩ := get_full h.ci.ok hn hz
      have ht := hw_trim h hw
      have hr := (ktrim h).ci.ok.right
      obtain ⟨r, hr1, hr2, hr3⟩ := span (a := B) (b := C.P) (by omega) hr (fun x h1 h2 => ht x h1 h2)
      have := h3 r hr1
      omega
  · unfold getC
    split
    · exact hw.up (by omega)
    · split
      · split
        · exact take_hw (ktrim h).ci.ok (hw_trim h hw) h0 hn
        · exact (hw_trim h hw).up (by omega)
      · exact take_hw h.ci.ok hw h0 hn
end Go.Proofs.YtamecmklcnohjaaGreat.Sep
namespace Go.Proofs.YtamecmklcnohjaaGreat.Sep
open Go.RowKit
set_option linter.unusedSimpArgs false
set_option linter.unusedVariables false
structure Rc where
  o : Int
  h : Int
  at_ : Int
  sz : Int
  k : MkT
  S : Sh
def trl (L : List Rc) : List Int := L.flatMap fun r => [r.o, r.h]
theorem trl_cons (r : Rc) (L : List Rc) : trl (r :: L) = r.o :: r.h :: trl L := rfl
theorem trl_app (L K : List Rc) : trl (L ++ K) = trl L ++ trl K := by unfold trl; exact List.flatMap_append
theorem trl_len : ∀ L : List Rc, (trl L).length = 2 * L.length
  | [] => rfl
  | r :: L => by rw [trl_cons]; simp only [List.length_cons]; rw [trl_len L]; omega
theorem trl_take : ∀ (L : List Rc) (n : Nat), (trl L).take (2 * n) = trl (L.take n)
  | [], n => by simp [trl]
  | r :: L, 0 => by simp [trl]
  | r :: L, n + 1 => by
    rw [trl_cons, List.take_succ_cons, trl_cons, show 2 * (n + 1) = 2 * n + 1 + 1 from by omega, List.take_succ_cons, List.take_succ_cons, trl_take L n]
theorem trl_drop : ∀ (L : List Rc) (n : Nat), (trl L).drop (2 * n) = trl (L.drop n)
  | [], n => by simp [trl]
  | r :: L, 0 => rfl
  | r :: L, n + 1 => by
    rw [trl_cons, List.drop_succ_cons, show 2 * (n + 1) = 2 * n + 1 + 1 from by omega, List.drop_succ_cons, List.drop_succ_cons, trl_drop L n]
theorem trl_mem {L : List Rc} {x : Int} : x ∈ trl L ↔ ∃ r ∈ L, x = r.o ∨ x = r.h := by
  unfold trl; rw [List.mem_flatMap]; simp
theorem giveH_obj {N : Nat} {z : Ar} (h : AOw N z) {x : Int} (x0 : 0 ≤ x) (x1 : x ≤ 18446744073709551615) {y : Int} (y0 : 0 ≤ y) (y1 : y ≤ 18446744073709551615) : (z.giveH x).obj.get y = if y = x ∧ hKind y = 2 then none else z.obj.get y := by
  unfold Ar.giveH
  split
  · rename_i hk; rw [if_neg (by rintro ⟨rfl, e⟩; omega)]
  · split
    · rename_i hk
      show (z.obj.drop (0, 0, 0) x).get y = _
      rw [Tb.get_drop h.ob (0, 0, 0) y0 y1 x0 x1]
      by_cases he : y = x
      · rw [if_pos he, if_pos ⟨he, by rw [he]; exact hk⟩]
      · rw [if_neg he, if_neg (fun hh => he hh.1)]
    · rename_i hk; rw [if_neg (by rintro ⟨rfl, e⟩; exact hk e)]
theorem giveH_mar {N : Nat} {z : Ar} (h : AOw N z) {x : Int} (x0 : 0 ≤ x) (x1 : x ≤ 18446744073709551615) {y : Int} (y0 : 0 ≤ y) (y1 : y ≤ 18446744073709551615) : (z.giveH x).mar.get y = if y = x ∧ hKind y ≠ 1 ∧ hKind y ≠ 2 then none else z.mar.get y := by
  unfold Ar.giveH
  split
  · rename_i hk; rw [if_neg (by rintro ⟨rfl, e, -⟩; exact e hk)]
  · split
    · rename_i hk; rw [if_neg (by rintro ⟨rfl, -, e⟩; exact e hk)]
    · rename_i hk1 hk
      show (z.mar.drop ⟨0, 0, 0, 0, 0, 0, 0⟩ x).get y = _
      rw [Tb.get_drop h.mr ⟨0, 0, 0, 0, 0, 0, 0⟩ y0 y1 x0 x1]
      by_cases he : y = x
      · rw [if_pos he, if_pos ⟨he, by rw [he]; exact hk1, by rw [he]; exact hk⟩]
      · rw [if_neg he, if_neg (fun hh => he hh.1)]
theorem fold_obj {l : List Int} (hb : ∀ x ∈ l, 0 ≤ x ∧ x ≤ 18446744073709551615) : ∀ {N : Nat} {z : Ar}, AOw N z → N + l.length ≤ 100000 → ∀ {y : Int}, 0 ≤ y → y ≤ 18446744073709551615 → (l.foldl Ar.giveH z).obj.get y = if y ∈ l ∧ hKind y = 2 then none else z.obj.get y := by
  induction l with
  | nil => intro N z _ _ y _ _; rw [if_neg (fun hh => by cases hh.1)]; rfl
  | cons x l ih =>
    intro N z h hN y y0 y1
    simp only [List.length_cons] at hN
    have hx := hb x (by simp)
    rw [List.foldl_cons, ih (fun y hy => hb y (by simp [hy])) (h.giveH (by omega) hx.1 hx.2) (by omega) y0 y1, giveH_obj h hx.1 hx.2 y0 y1]
    by_cases hk : hKind y = 2
    · by_cases h1 : y ∈ l
      · rw [if_pos ⟨h1, hk⟩, if_pos ⟨by simp [h1], hk⟩]
      · by_cases h2 : y = x
        · rw [if_neg (fun hh => h1 hh.1), if_pos ⟨h2, hk⟩, if_pos ⟨by simp [h2], hk⟩]
        · rw [if_neg (fun hh => h1 hh.1), if_neg (fun hh => h2 hh.1), if_neg (fun hh => (List.mem_cons.1 hh.1).elim h2 h1)]
    · rw [if_neg (fun hh => hk hh.2), if_neg (fun hh => hk hh.2), if_neg (fun hh => hk hh.2)]
theorem fold_mar {l : List Int} (hb : ∀ x ∈ l, 0 ≤ x ∧ x ≤ 18446744073709551615) : ∀ {N : Nat} {z : Ar}, AOw N z → N + l.length ≤ 100000 → ∀ {y : Int}, 0 ≤ y → y ≤ 18446744073709551615 → (l.foldl Ar.giveH z).mar.get y = if y ∈ l ∧ hKind y ≠ 1 ∧ hKind y ≠ 2 then none else z.mar.get y := by
  induction l with
  | nil => intro N z _ _ y _ _; rw [if_neg (fun hh => by cases hh.1)]; rfl
  | cons x l ih =>
    intro N z h hN y y0 y1
    simp only [List.length_cons] at hN
    have hx := hb x (by simp)
    rw [List.foldl_cons, ih (fun y hy => hb y (by simp [hy])) (h.giveH (by omega) hx.1 hx.2) (by omega) y0 y1, giveH_mar h hx.1 hx.2 y0 y1]
    by_cases hk : hKind y ≠ 1 ∧ hKind y ≠ 2
    · by_cases h1 : y ∈ l
      · rw [if_pos ⟨h1, hk⟩, if_pos ⟨by simp [h1], hk⟩]
      · by_cases h2 : y = x
        · rw [if_neg (fun hh => h1 hh.1), if_pos ⟨h2, hk⟩, if_pos ⟨by simp [h2], hk⟩]
        · rw [if_neg (fun hh => h1 hh.1), if_neg (fun hh => h2 hh.1), if_neg (fun hh => (List.mem_cons.1 hh.1).elim h2 h1)]
    · rw [if_neg (fun hh => hk hh.2), if_neg (fun hh => hk hh.2), if_neg (fun hh => hk hh.2)]
theorem AOk.giveN {N : Nat} {z : Ar} (h : AOk N z) {d : Nat} (hN : N + d ≤ 100000) (of_ : Int) (n : Nat) (hd : ((ofL z.rs of_).drop n).length ≤ d) : AOk (N + d) (z.give0 of_ n) := by
  have hbl : ∀ y ∈ ((ofL z.rs of_).drop n).reverse, 0 ≤ y ∧ y ≤ 18446744073709551615 := fun y hy => h.rb _ (ofL_val _ _ _ (List.mem_of_mem_drop (List.mem_reverse.1 hy)))
  have hll : ((ofL z.rs of_).drop n).reverse.length ≤ d := by rw [List.length_reverse]; exact hd
  exact (AOk.fold hbl (h.cut of_ n) (by omega)).le (by omega) hN
theorem AOk.rewN {N : Nat} {z : Ar} (h : AOk N z) {d : Nat} (hN : N + d + 1 ≤ 100000) {i b : Nat} {k : MkT} {S : Sh} (hd : ((ofL z.rs k.of_).drop k.tr.toNat).length ≤ d) (hq : z.M[i]? = some (b, k.of_, S)) (hf : fitsS S k.mc k.ml k.at_ = true) (ha0 : 0 ≤ k.at_) (ho : 0 ≤ k.ob ∧ k.ob ≤ 18446744073709551615) (hp : 0 ≤ k.pd ∧ k.pd ≤ 18446744073709551615) : AOk (N + d + 1) (z.rewound i b k S) := by
  show AOk (N + d + 1) { z.give0 k.of_ k.tr.toNat with C := putsC z.C S k.mc k.ml, m := rewM z.P z.m S k.mc k.ml k.at_, M := z.M.set i (b, k.of_, setTop (cutS S k.mc k.ml) k.at_ k.ob k.pd) }
  have hg := h.giveN (by omega) k.of_ k.tr.toNat hd
  have hfr := fold_reg ((ofL z.rs k.of_).drop k.tr.toNat).reverse { z with rs := cutW z.rs k.of_ k.tr.toNat }
  have hR := h.R.one hq
  rw [show (((ofL z.rs k.of_).drop k.tr.toNat).reverse.foldl Ar.giveH { z with rs := cutW z.rs k.of_ k.tr.toNat }) = z.give0 k.of_ k.tr.toNat from rfl] at hfr
  generalize z.give0 k.of_ k.tr.toNat = zg at hg hfr ⊢
  obtain ⟨f1, f2, f3, f4, f5, f6, f7⟩ := hfr
  dsimp only at f2 f5 hR
  have hr := rew_inv (ob := k.ob) (pd := k.pd) hR hf ha0 ho hp
  rw [← f2] at hq hr ⊢
  rw [← f5] at hr ⊢
  exact hg.shape (by omega) hq (hr.le (B' := N + d + 1) (by omega))
structure MkI (z : Ar) (b : Nat) (L : List Rc) (c : Nat) (S : Sh) : Prop where
  q : z.M = [(b, aH, S)]
  rh : z.reg.handles = [aH]
  rs : ofL z.rs aH = trl (L.take c)
  ob : ∀ (i : Nat) (r : Rc), L[i]? = some r → z.obj.get r.o = if i < c then some (r.at_, r.sz, aH) else none
  mr : ∀ (i : Nat) (r : Rc), L[i]? = some r → z.mar.get r.h = if i < c then some r.k else none
  bo : ∀ r ∈ L, 0 ≤ r.o ∧ r.o ≤ 18446744073709551615 ∧ hKind r.o = 2
  bh : ∀ r ∈ L, 0 ≤ r.h ∧ r.h ≤ 18446744073709551615 ∧ hKind r.h = 3
  no : (L.map (·.o)).Nodup
  nh : (L.map (·.h)).Nodup
  km : ∀ (i : Nat) (r : Rc), L[i]? = some r → r.k = ⟨(r.S.parts.length : Int), (r.S.larges.length : Int), topAt r.S, r.S.obj, r.S.pad, aH, 2 * (i : Int) + 2⟩
  pw : L.Pairwise fun r r' => Grow r.S r'.S
  gr : ∀ r ∈ L.take c, Grow r.S S
  cu : ∀ r ∈ L, CurOk r.S ∧ (0 ≤ topAt r.S ∧ topAt r.S ≤ 18446744073709551615) ∧ (0 ≤ r.S.obj ∧ r.S.obj ≤ 18446744073709551615) ∧ (0 ≤ r.S.pad ∧ r.S.pad ≤ 18446744073709551615)
  fs : ∀ r, L[0]? = some r → r.S.obj = r.sz
  em : L = [] → S.obj = 0
theorem rc_ix {L : List Rc} {f : Rc → Int} (h : (L.map f).Nodup) {i j : Nat} {r s : Rc} (hi : L[i]? = some r) (hj : L[j]? = some s) (he : f r = f s) : i = j := by
  have h1 : i < (L.map f).length := by rw [List.length_map]; exact (List.getElem?_eq_some_iff.1 hi).1
  have h2 : (L.map f)[i]? = (L.map f)[j]? := by rw [List.getElem?_map, List.getElem?_map, hi, hj]; simp [he]
  exact (List.getElem?_inj h1 h).1 h2
theorem MkI.cut {N : Nat} {z : Ar} {b c : Nat} {L : List Rc} {S : Sh} (h : MkI z b L c S) (hA : AOk N z) (hc : c ≤ L.length) (hN : N + 2 * L.length + 1 ≤ 100000) {i : Nat} {r : Rc} (hr : L[i]? = some r) (hi : i < c) :
    z.mar.get r.h = some r.k ∧ 0 ≤ r.k.tr ∧ z.M[0]? = some (b, r.k.of_, S) ∧ (∀ y ∈ (ofL z.rs r.k.of_).drop r.k.tr.toNat, hKind y = 1 → z.reg.get y = none) ∧ fitsS S r.k.mc r.k.ml r.k.at_ = true ∧ 0 ≤ r.k.at_ ∧ r.k.at_ ≤ 18446744073709551615 ∧ AOk (N + 2 * L.length + 1) (z.rewound 0 b r.k S) ∧ MkI (z.rewound 0 b r.k S) b L (i + 1) r.S := by
  have hil := (List.getElem?_eq_some_iff.1 hr).1
  have hrm := List.mem_of_getElem? hr
  have hk := h.km i r hr
  obtain ⟨u1, u2, u3, u4⟩ := h.cu r hrm
  have hrt : r ∈ L.take c := List.mem_of_getElem? (show (L.take c)[i]? = some r by rw [List.getElem?_take, if_pos hi]; exact hr)
  obtain ⟨g1, g2⟩ := grow_fits (h.gr r hrt) u1
  have hof : r.k.of_ = aH := by rw [hk]
  have htr : r.k.tr.toNat = 2 * (i + 1) := by rw [hk]; show (2 * (i : Int) + 2).toNat = _; omega
  have hq0 : z.M[0]? = some (b, r.k.of_, S) := by rw [h.q, hof]; rfl
  have hdr : (ofL z.rs r.k.of_).drop r.k.tr.toNat = trl ((L.take c).drop (i + 1)) := by rw [hof, htr, h.rs, trl_drop]
  have hfit : fitsS S r.k.mc r.k.ml r.k.at_ = true := by rw [hk]; exact g1
  have hat : 0 ≤ r.k.at_ ∧ r.k.at_ ≤ 18446744073709551615 := by rw [hk]; exact u2
  have hob : 0 ≤ r.k.ob ∧ r.k.ob ≤ 18446744073709551615 := by rw [hk]; exact u3
  have hpd : 0 ≤ r.k.pd ∧ r.k.pd ≤ 18446744073709551615 := by rw [hk]; exact u4
  have hlen : ((ofL z.rs r.k.of_).drop r.k.tr.toNat).length ≤ 2 * L.length := by
    rw [hdr, trl_len, List.length_drop, List.length_take]; omega
  have hsub : ∀ s ∈ (L.take c).drop (i + 1), s ∈ L := fun s hs => List.mem_of_mem_take (List.mem_of_mem_drop hs)
  have hlb : ∀ y ∈ ((ofL z.rs r.k.of_).drop r.k.tr.toNat).reverse, 0 ≤ y ∧ y ≤ 18446744073709551615 := fun y hy => hA.rb _ (ofL_val _ _ _ (List.mem_of_mem_drop (List.mem_reverse.1 hy)))
  have hll : N + ((ofL z.rs r.k.of_).drop r.k.tr.toNat).reverse.length ≤ 100000 := by rw [List.length_reverse]; omega
  have hAc := hA.cut r.k.of_ r.k.tr.toNat
  have hfr := fold_reg ((ofL z.rs r.k.of_).drop r.k.tr.toNat).reverse { z with rs := cutW z.rs r.k.of_ r.k.tr.toNat }
  have hfo := fun {y : Int} => fold_obj hlb hAc.w hll (y := y)
  have hfm := fun {y : Int} => fold_mar hlb hAc.w hll (y := y)
  refine ⟨by rw [h.mr i r hr, if_pos hi], by rw [hk]; show (0 : Int) ≤ 2 * (i : Int) + 2; omega, hq0, fun y hy h1 => ?_, hfit, hat.1, hat.2, hA.rewN hN hlen hq0 hfit hat.1 hob hpd, ?_⟩
  · rw [hdr, trl_mem] at hy
    obtain ⟨s, hs, e⟩ := hy
    have b1 := h.bo s (hsub s hs)
    have b2 := h.bh s (hsub s hs)
    rcases e with rfl | rfl <;> omega
  · have dead : ∀ (j : Nat) (s : Rc), L[j]? = some s → (s ∈ (L.take c).drop (i + 1) ↔ i + 1 ≤ j ∧ j < c) := fun j s hs => by
      constructor
      · intro hm
        obtain ⟨n, hn⟩ := List.getElem?_of_mem hm
        rw [List.getElem?_drop, List.getElem?_take] at hn
        split at hn
        · have := rc_ix h.no hs hn rfl
          omega
        · cases hn
      · intro hj
        refine List.mem_of_getElem? (i := j - (i + 1)) ?_
        rw [List.getElem?_drop, show i + 1 + (j - (i + 1)) = j from by omega, List.getElem?_take, if_pos hj.2]
        exact hs
    refine ⟨?_, ?_, ?_, fun j s hs => ?_, fun j s hs => ?_, h.bo, h.bh, h.no, h.nh, h.km, h.pw, fun s hs => ?_, h.cu, h.fs, fun e => by rw [e] at hr; cases hr⟩
    · show z.M.set 0 (b, r.k.of_, setTop (cutS S r.k.mc r.k.ml) r.k.at_ r.k.ob r.k.pd) = _
      rw [h.q, hk]
      show [(b, aH, setTop (cutS S r.S.parts.length r.S.larges.length) (topAt r.S) r.S.obj r.S.pad)] = _
      rw [g2]
    · show (((ofL z.rs r.k.of_).drop r.k.tr.toNat).reverse.foldl Ar.giveH { z with rs := cutW z.rs r.k.of_ r.k.tr.toNat }).reg.handles = _
      rw [hfr.1]; exact h.rh
    · show ofL (((ofL z.rs r.k.of_).drop r.k.tr.toNat).reverse.foldl Ar.giveH { z with rs := cutW z.rs r.k.of_ r.k.tr.toNat }).rs aH = _
      rw [hfr.2.2.2.2.2.2]
      show ofL (cutW z.rs r.k.of_ r.k.tr.toNat) aH = _
      rw [hof, ofL_cutW, htr, h.rs, trl_take, List.take_take, Nat.min_eq_left (by omega)]
    · have hsm := List.mem_of_getElem? hs
      have b1 := h.bo s hsm
      show (((ofL z.rs r.k.of_).drop r.k.tr.toNat).reverse.foldl Ar.giveH { z with rs := cutW z.rs r.k.of_ r.k.tr.toNat }).obj.get s.o = _
      rw [hfo b1.1 b1.2.1]
      show (if _ then none else z.obj.get s.o) = _
      rw [h.ob j s hs]
      have hiff : s.o ∈ ((ofL z.rs r.k.of_).drop r.k.tr.toNat).reverse ↔ i + 1 ≤ j ∧ j < c := by
        rw [List.mem_reverse, hdr, trl_mem, ← dead j s hs]
        constructor
        · rintro ⟨t, ht, e⟩
          have b2 := h.bh t (hsub t ht)
          rcases e with e | e
          · obtain ⟨n, hn⟩ := List.getElem?_of_mem (hsub t ht)
            have := rc_ix h.no hs hn e
            subst this
            rw [hs] at hn; cases hn; exact ht
          · rw [← e] at b2; omega
        · exact fun hm => ⟨s, hm, .inl rfl⟩
      by_cases h1 : j < i + 1
      · rw [if_neg (fun hh => by have := hiff.1 hh.1; omega), if_pos (by omega), if_pos h1]
      · rw [if_neg (c := j < i + 1) h1]
        by_cases h2 : j < c
        · rw [if_pos ⟨hiff.2 ⟨by omega, h2⟩, b1.2.2⟩]
        · rw [if_neg (c := j < c) h2]; split <;> rfl
    · have hsm := List.mem_of_getElem? hs
      have b1 := h.bh s hsm
      show (((ofL z.rs r.k.of_).drop r.k.tr.toNat).reverse.foldl Ar.giveH { z with rs := cutW z.rs r.k.of_ r.k.tr.toNat }).mar.get s.h = _
      rw [hfm b1.1 b1.2.1]
      show (if _ then none else z.mar.get s.h) = _
      rw [h.mr j s hs]
      have hiff : s.h ∈ ((ofL z.rs r.k.of_).drop r.k.tr.toNat).reverse ↔ i + 1 ≤ j ∧ j < c := by
        rw [List.mem_reverse, hdr, trl_mem, ← dead j s hs]
        constructor
        · rintro ⟨t, ht, e⟩
          have b2 := h.bo t (hsub t ht)
          rcases e with e | e
          · rw [← e] at b2; omega
          · obtain ⟨n, hn⟩ := List.getElem?_of_mem (hsub t ht)
            have := rc_ix h.nh hs hn e
            subst this
            rw [hs] at hn; cases hn; exact ht
        · exact fun hm => ⟨s, hm, .inr rfl⟩
      by_cases h1 : j < i + 1
      · rw [if_neg (fun hh => by have := hiff.1 hh.1; omega), if_pos (by omega), if_pos h1]
      · rw [if_neg (c := j < i + 1) h1]
        by_cases h2 : j < c
        · rw [if_pos ⟨hiff.2 ⟨by omega, h2⟩, by omega, by omega⟩]
        · rw [if_neg (c := j < c) h2]; split <;> rfl
    · obtain ⟨j, hj⟩ := List.getElem?_of_mem hs
      rw [List.getElem?_take] at hj
      split at hj
      · by_cases hji : j = i
        · subst hji
          rw [hr] at hj; cases hj
          exact Grow.refl _
        · have hjl := (List.getElem?_eq_some_iff.1 hj)
          have hrl := (List.getElem?_eq_some_iff.1 hr)
          obtain ⟨p1, p2⟩ := hjl
          obtain ⟨p3, p4⟩ := hrl
          have := List.pairwise_iff_getElem.1 h.pw j i p1 p3 (by omega)
          rw [p2, p4] at this
          exact this
      · cases hj
theorem MkI.made {N : Nat} {z : Ar} {b : Nat} {L : List Rc} {S : Sh} (h : MkI z b L L.length S) (hA : AOk N z) (hN : N + 2 ≤ 100000) {size : Int} (h0 : 1 ≤ size) (h1 : size ≤ 18446744073709551615) {C' : Co} {m' : Mm} {S' : Sh} {at_ : Int} (har : AR z.P z.C z.m S aH size 1 C' m' S' at_ 0) (hob : S'.obj = IntKind.u64.wrap (S.obj + size)) :
    z.M[0]? = some (b, aH, S) ∧ (z.alloced 0 b aH size C' m' S' at_ 0).M[0]? = some (b, aH, S') ∧ AOk (N + 1) (z.alloced 0 b aH size C' m' S' at_ 0) ∧ AOk (N + 2) ((z.alloced 0 b aH size C' m' S' at_ 0).marked aH S') ∧
      MkI ((z.alloced 0 b aH size C' m' S' at_ 0).marked aH S') b (L ++ [⟨z.obj.addH, z.mar.addH, at_, size, mkOf (z.alloced 0 b aH size C' m' S' at_ 0) aH S', S'⟩]) (L.length + 1) S' := by
  have hM : z.M[0]? = some (b, aH, S) := by rw [h.q]; rfl
  have hM' : (z.alloced 0 b aH size C' m' S' at_ 0).M[0]? = some (b, aH, S') := by
    show (z.M.set 0 (b, aH, S'))[0]? = _
    rw [h.q]; rfl
  have hR := hA.R.one hM
  have hA1 := hA.alloced (by omega) hM (by omega) (by decide) (by decide) har
  have hA2 := hA1.marked (by omega) aH S'
  have hR' := hA1.R.one hM'
  dsimp only at hR hR'
  have hao : (0 : Int) ≤ aH ∧ aH < 18446744073709551616 := by decide +kernel
  have htb := top_bd hR'.S.ok
  have o1 := Tb.addH_bd hA.ob
  have o2 := Tb.addH_new hA.ob
  have o3 := (Tb.addH_parts hA.ob).1
  have m1 := Tb.addH_bd hA.mr
  have m2 := Tb.addH_new hA.mr
  have m3 := (Tb.addH_parts hA.mr).1
  have eo : ∀ {y : Int}, 0 ≤ y → y ≤ 18446744073709551615 → ((z.alloced 0 b aH size C' m' S' at_ 0).marked aH S').obj.get y = if y = z.obj.addH then some (at_, size, aH) else z.obj.get y := fun y0 y1 => Tb.get_add hA.ob _ y0 y1
  have em : ∀ {y : Int}, 0 ≤ y → y ≤ 18446744073709551615 → ((z.alloced 0 b aH size C' m' S' at_ 0).marked aH S').mar.get y = if y = z.mar.addH then some (mkOf (z.alloced 0 b aH size C' m' S' at_ 0) aH S') else z.mar.get y := fun y0 y1 => Tb.get_add hA.mr _ y0 y1
  have hgrow : ∀ r ∈ L, Grow r.S S' := fun r hr => har.grow hR hao (by omega) (by decide) (by decide) (h.gr r (by rw [List.take_length]; exact hr))
  have hlo : ∀ r ∈ L, r.o ≠ z.obj.addH := fun r hr e => by
    obtain ⟨j, hj⟩ := List.getElem?_of_mem hr
    have := h.ob j r hj
    rw [if_pos (List.getElem?_eq_some_iff.1 hj).1, e, o2] at this
    cases this
  have hlh : ∀ r ∈ L, r.h ≠ z.mar.addH := fun r hr e => by
    obtain ⟨j, hj⟩ := List.getElem?_of_mem hr
    have := h.mr j r hj
    rw [if_pos (List.getElem?_eq_some_iff.1 hj).1, e, m2] at this
    cases this
  have hix : ∀ (j : Nat) (r x : Rc), (L ++ [x])[j]? = some r → (j < L.length ∧ L[j]? = some r) ∨ (j = L.length ∧ r = x) := fun j r x hj => by
    by_cases hl : j < L.length
    · rw [List.getElem?_append_left hl] at hj; exact .inl ⟨hl, hj⟩
    · rw [List.getElem?_append_right (by omega)] at hj
      have : j - L.length = 0 := by
        by_cases e : j - L.length = 0
        · exact e
        · rw [List.getElem?_eq_none (by simp; omega)] at hj; cases hj
      rw [this] at hj
      simp at hj
      exact .inr ⟨by omega, hj.symm⟩
  have hlen : (ofL (z.alloced 0 b aH size C' m' S' at_ 0).rs aH).length = 2 * L.length + 1 := by
    show (ofL (z.rs ++ [(aH, z.obj.addH)]) aH).length = _
    rw [ofL_append, List.length_append, h.rs, List.take_length, trl_len]
    simp [ofL]
  refine ⟨hM, hM', hA1, hA2, ?_, h.rh, ?_, fun j r hj => ?_, fun j r hj => ?_, fun r hr => ?_, fun r hr => ?_, ?_, ?_, fun j r hj => ?_, ?_, fun r hr => ?_, fun r hr => ?_, fun r hr => ?_, fun e => by simp at e⟩
  · show z.M.set 0 (b, aH, S') = _
    rw [h.q]; rfl
  · show ofL ((z.rs ++ [(aH, z.obj.addH)]) ++ [(aH, z.mar.addH)]) aH = _
    rw [ofL_append, ofL_append, h.rs, List.take_length, show L.length + 1 = (L ++ [_]).length from by rw [List.length_append]; rfl, List.take_length, trl_app]
    simp [ofL, trl]
  · rcases hix j r _ hj with ⟨q1, q2⟩ | ⟨q1, q2⟩
    · have hrm := List.mem_of_getElem? q2
      have b1 := h.bo r hrm
      rw [eo b1.1 b1.2.1, if_neg (hlo r hrm), h.ob j r q2, if_pos q1, if_pos (by omega)]
    · subst q2
      rw [eo o1.1 o1.2, if_pos rfl, if_pos (by omega)]
  · rcases hix j r _ hj with ⟨q1, q2⟩ | ⟨q1, q2⟩
    · have hrm := List.mem_of_getElem? q2
      have b1 := h.bh r hrm
      rw [em b1.1 b1.2.1, if_neg (hlh r hrm), h.mr j r q2, if_pos q1, if_pos (by omega)]
    · subst q2
      rw [em m1.1 m1.2, if_pos rfl, if_pos (by omega)]
  · rcases List.mem_append.1 hr with hr | hr
    · exact h.bo r hr
    · simp at hr; subst hr; exact ⟨o1.1, o1.2, by rw [o3]; exact hA.k2⟩
  · rcases List.mem_append.1 hr with hr | hr
    · exact h.bh r hr
    · simp at hr; subst hr; exact ⟨m1.1, m1.2, by rw [m3]; exact hA.k3⟩
  · rw [List.map_append, List.nodup_append]
    refine ⟨h.no, by simp, fun x hx y hy e => ?_⟩
    obtain ⟨r, hr, rfl⟩ := List.mem_map.1 hx
    simp at hy
    exact hlo r hr (e.trans hy)
  · rw [List.map_append, List.nodup_append]
    refine ⟨h.nh, by simp, fun x hx y hy e => ?_⟩
    obtain ⟨r, hr, rfl⟩ := List.mem_map.1 hx
    simp at hy
    exact hlh r hr (e.trans hy)
  · rcases hix j r _ hj with ⟨q1, q2⟩ | ⟨q1, q2⟩
    · exact h.km j r q2
    · subst q2
      show mkOf _ aH S' = _
      unfold mkOf
      rw [hlen, q1]
      have : (((2 * L.length + 1 : Nat) : Int) + 1) = 2 * (L.length : Int) + 2 := by omega
      rw [this]
  · rw [List.pairwise_append]
    refine ⟨h.pw, by simp, fun r hr s hs => ?_⟩
    simp at hs; subst hs
    exact hgrow r hr
  · rw [show L.length + 1 = (L ++ [_]).length from by rw [List.length_append]; rfl, List.take_length] at hr
    rcases List.mem_append.1 hr with hr | hr
    · exact hgrow r hr
    · simp at hr; subst hr; exact Grow.refl _
  · rcases List.mem_append.1 hr with hr | hr
    · exact h.cu r hr
    · simp at hr; subst hr
      exact ⟨hR'.curOk, ⟨htb.1, htb.2.1⟩, hR'.S.ok.obj, hR'.S.ok.pad⟩
  · rcases hix 0 r _ hr with ⟨q1, q2⟩ | ⟨q1, q2⟩
    · exact h.fs r q2
    · subst q2
      show S'.obj = size
      rw [hob, h.em (List.length_eq_zero_iff.1 q1.symm), Int.zero_add]
      exact wrap_u64 (by omega) (by omega)
theorem need_1 {size : Int} (h0 : 1 ≤ size) (h1 : size ≤ 65536) : needI size 1 = some ((32 + size + 4095) / 4096) := by
  unfold needI
  rw [if_neg (by omega), show upI 32 1 = some 32 from by decide]
  show (addI 32 size).map _ = _
  unfold addI
  rw [if_pos (by omega)]
  rfl
theorem not_bad1 {size : Int} (h0 : 1 ≤ size) : ¬ badA size 1 := fun h => by
  rcases h with h | h
  · omega
  · rw [show needI 1 1 = some 1 from by decide] at h; cases h
theorem AR.room {P : Int} {B : Nat} {o : Int} {C C' : Co} {m m' : Mm} {s s' : Sh} {oth : List (Int × Hd)} {size at_ e H : Int} (hR : RInv P B o C m.f s oth) (h0 : 1 ≤ size) (h1 : size ≤ 65536) (hH : HW C H) (hH0 : 0 ≤ H) (hHP : H + 64 ≤ P) (h : AR P C m s o size 1 C' m' s' at_ e) : e = 0 ∧ HW C' (H + 64) ∧ s'.obj = IntKind.u64.wrap (s.obj + size) := by
  have hnb := not_bad1 h0
  have hP := hR.P1
  have room : ∀ n big, chunkI size 1 = (n, big, true) → (getC C n).2.2 = 0 ∧ HW (getC C n).1 (H + 64) := fun n big hc => by
    have c1 := chunk_n (by omega) (by decide) hc
    have hn : n ≤ 64 := by
      have hr : RunOk 1048576 (0, n) := ⟨by show (0 : Int) ≤ 0; omega, c1.1, by show 0 + n ≤ 1048576; omega⟩
      obtain ⟨-, f2, f3, f4⟩ := chunk_fit (by omega) (by decide) (by decide) hnb hc (Int.le_refl _) hr
      split at f4 <;> omega
    obtain ⟨z1, z2⟩ := hw_get hR.K hH hH0 c1.1 (by rw [hR.hP]; omega)
    exact ⟨z1, z2.up (by omega)⟩
  cases h with
  | bad hb => exact absurd hb hnb
  | fit q _ _ => exact ⟨rfl, hH.up (by omega), rfl⟩
  | huge _ _ hc =>
    exfalso
    unfold chunkI at hc
    rw [need_1 h0 h1] at hc
    dsimp only at hc
    rw [if_neg (by omega), if_neg (by omega)] at hc
    cases hc
  | full n big _ _ hc hg => exact absurd (room n big hc).1 hg
  | big n pg _ _ hc _ => exact ⟨rfl, (room n true hc).2, rfl⟩
  | part n pg _ _ hc _ => exact ⟨rfl, (room n false hc).2, rfl⟩
theorem MkI.zero {z : Ar} {b : Nat} (h1 : z.M = [(b, aH, emptySh)]) (h2 : z.reg.handles = [aH]) (h3 : z.rs = []) : MkI z b [] 0 emptySh :=
  ⟨h1, h2, by rw [h3]; rfl, (fun i r h => by cases h), (fun i r h => by cases h), (fun r h => by cases h), (fun r h => by cases h), List.nodup_nil, List.nodup_nil, (fun i r h => by cases h), List.Pairwise.nil, (fun r h => by cases h), (fun r h => by cases h), (fun r h => by cases h), fun _ => rfl⟩
end Go.Proofs.YtamecmklcnohjaaGreat.Sep
namespace Go.Proofs.YtamecmklcnohjaaGreat.Sep
open Go.RowKit
set_option linter.unusedSimpArgs false
set_option linter.unusedVariables false
def ordF (T : List (Int × Int)) : Nat → Int → List Int
  | 0, id => [id]
  | n + 1, id => (kids T id).reverse.flatMap (ordF T n) ++ [id]
def Low (T : List (Int × Int)) : Nat → Int → Prop
  | 0, id => kids T id = []
  | n + 1, id => ∀ c ∈ kids T id, Low T n c
theorem low_of {T : List (Int × Int)} (h : TWf T) : ∀ (n : Nat) (A B : List (Int × Int)), B.length ≤ n → T = A ++ B → ∀ id, (∀ c, (c, id) ∈ T → (c, id) ∈ B) → Low T n id
  | 0, A, B, hl, hT, id, hk => by
    have hB : B = [] := List.length_eq_zero_iff.1 (Nat.le_zero.1 hl)
    show kids T id = []
    cases hc : kids T id with
    | nil => rfl
    | cons c l =>
      have := hk c (kids_mem.1 (by rw [hc]; simp))
      rw [hB] at this; cases this
  | n + 1, A, B, hl, hT, id, hk => by
    show ∀ c ∈ kids T id, Low T n c
    intro c hc
    have hcB := hk c (kids_mem.1 hc)
    obtain ⟨B1, B2, hB⟩ := List.append_of_mem hcB
    have hT2 : T = (A ++ B1 ++ [(c, id)]) ++ B2 := by rw [hT, hB]; simp
    refine low_of h n (A ++ B1 ++ [(c, id)]) B2 (by rw [hB] at hl; simp at hl; omega) hT2 c (fun d hd => ?_)
    have hod := h.od
    rw [hT2, List.pairwise_append, List.pairwise_append] at hod
    have hd2 := hd
    rw [hT2] at hd2
    rcases List.mem_append.1 hd2 with h1 | h1
    · rcases List.mem_append.1 h1 with h2 | h2
      · exact absurd rfl (hod.1.2.2 (d, c) h2 (c, id) (by simp))
      · simp at h2
        exact absurd (by rw [← h2.2]) (h.ne (c, id) (by rw [hT2]; simp))
    · exact h1
theorem low_all {T : List (Int × Int)} (h : TWf T) (id : Int) : Low T T.length id := low_of h T.length [] T (Nat.le_refl _) rfl id (fun _ hc => hc)
theorem ordF_self (T : List (Int × Int)) : ∀ (n : Nat) (id : Int), id ∈ ordF T n id
  | 0, id => by simp [ordF]
  | n + 1, id => by simp [ordF]
theorem split_flat {f : Int → List Int} : ∀ {L : List Int} {l1 l2 : List Int} {g : Int}, L.flatMap f = l1 ++ g :: l2 → ∃ k ∈ L, ∃ m1 m2, f k = m1 ++ g :: m2 ∧ ∀ x ∈ m1, x ∈ l1
  | [], l1, l2, g, h => by simp at h
  | a :: L, l1, l2, g, h => by
    rw [List.flatMap_cons] at h
    rcases List.append_eq_append_iff.1 h with ⟨u, h1, h2⟩ | ⟨u, h1, h2⟩
    · obtain ⟨k, hk, m1, m2, e, hs⟩ := split_flat (L := L) h2
      exact ⟨k, List.mem_cons.2 (.inr hk), m1, m2, e, fun x hx => by rw [h1]; exact List.mem_append.2 (.inr (hs x hx))⟩
    · cases u with
      | nil =>
        simp only [List.nil_append, List.append_nil] at h1 h2
        obtain ⟨k, hk, m1, m2, e, hs⟩ := split_flat (L := L) (l1 := []) (l2 := l2) (g := g) (by rw [← h2]; rfl)
        exact ⟨k, List.mem_cons.2 (.inr hk), m1, m2, e, fun x hx => by have := hs x hx; cases this⟩
      | cons b u =>
        simp only [List.cons_append, List.cons.injEq] at h2
        obtain ⟨rfl, h2⟩ := h2
        exact ⟨a, by simp, l1, u, h1, fun x hx => hx⟩
theorem ordF_kids {T : List (Int × Int)} : ∀ (n : Nat) (id : Int), Low T n id → ∀ {l1 l2 : List Int} {g : Int}, ordF T n id = l1 ++ g :: l2 → ∀ c ∈ kids T g, c ∈ l1
  | 0, id, hL, l1, l2, g, h => by
    intro c hc
    have hL' : kids T id = [] := hL
    unfold ordF at h
    cases l1 with
    | nil => simp at h; rw [← h.1, hL'] at hc; cases hc
    | cons a l1 => simp at h
  | n + 1, id, hL, l1, l2, g, h => by
    intro c hc
    have hL' : ∀ c ∈ kids T id, Low T n c := hL
    unfold ordF at h
    rcases List.append_eq_append_iff.1 h with ⟨u, h1, h2⟩ | ⟨u, h1, h2⟩
    · cases u with
      | nil =>
        simp at h2
        rw [← h2.1] at hc
        rw [List.append_nil] at h1
        rw [h1]
        exact List.mem_flatMap.2 ⟨c, List.mem_reverse.2 hc, ordF_self T n c⟩
      | cons a u => simp at h2
    · cases u with
      | nil =>
        rw [List.nil_append] at h2
        simp at h2
        rw [h2.1] at hc
        rw [List.append_nil] at h1
        rw [← h1]
        exact List.mem_flatMap.2 ⟨c, List.mem_reverse.2 hc, ordF_self T n c⟩
      | cons a u =>
        simp only [List.cons_append, List.cons.injEq] at h2
        obtain ⟨rfl, h2⟩ := h2
        obtain ⟨k, hk, m1, m2, e, hs⟩ := split_flat h1
        exact hs c (ordF_kids n k (hL' k (List.mem_reverse.1 hk)) e c hc)
theorem ordF_down {T : List (Int × Int)} {n : Nat} {id g c : Int} (hL : Low T n id) (hg : g ∈ ordF T n id) (hc : c ∈ kids T g) : c ∈ ordF T n id := by
  obtain ⟨l1, l2, e⟩ := List.append_of_mem hg
  have := ordF_kids n id hL e c hc
  rw [e]; exact List.mem_append.2 (.inl this)
theorem ordF_up {T : List (Int × Int)} : ∀ (n : Nat) (id : Int), ∀ {x : Int}, x ∈ ordF T n id → x = id ∨ ∃ p ∈ ordF T n id, (x, p) ∈ T
  | 0, id, x, h => by simp [ordF] at h; exact .inl h
  | n + 1, id, x, h => by
    unfold ordF at h
    rcases List.mem_append.1 h with h1 | h1
    · obtain ⟨k, hk, hx⟩ := List.mem_flatMap.1 h1
      have hkid := kids_mem.1 (List.mem_reverse.1 hk)
      rcases ordF_up n k hx with h2 | ⟨p, hp, h2⟩
      · subst h2; exact .inr ⟨id, by unfold ordF; simp, hkid⟩
      · exact .inr ⟨p, by unfold ordF; exact List.mem_append.2 (.inl (List.mem_flatMap.2 ⟨k, hk, hp⟩)), h2⟩
    · simp at h1; exact .inl h1
def dropT (T : List (Int × Int)) (G : List Int) : List (Int × Int) := T.filter fun q => !(G.contains q.1)
theorem dropT_mem {T : List (Int × Int)} {G : List Int} {q : Int × Int} : q ∈ dropT T G ↔ q ∈ T ∧ q.1 ∉ G := by
  unfold dropT; rw [List.mem_filter]; simp
theorem dropT_keys {T : List (Int × Int)} {G : List Int} {x : Int} : x ∈ (dropT T G).map (·.1) ↔ x ∈ T.map (·.1) ∧ x ∉ G := by
  constructor
  · intro h
    obtain ⟨q, hq, rfl⟩ := List.mem_map.1 h
    have := dropT_mem.1 hq
    exact ⟨List.mem_map.2 ⟨q, this.1, rfl⟩, this.2⟩
  · rintro ⟨h, hg⟩
    obtain ⟨q, hq, rfl⟩ := List.mem_map.1 h
    exact List.mem_map.2 ⟨q, dropT_mem.2 ⟨hq, hg⟩, rfl⟩
theorem TWf.drop {T : List (Int × Int)} (h : TWf T) {n : Nat} {id : Int} (hL : Low T n id) : TWf (dropT T (ordF T n id)) := by
  refine ⟨?_, fun q hq => h.nz q (dropT_mem.1 hq).1, fun q hq => ?_, fun q hq => h.ne q (dropT_mem.1 hq).1, h.od.filter _⟩
  · exact h.nd.sublist (List.Sublist.map _ (List.filter_sublist))
  · obtain ⟨h1, h2⟩ := dropT_mem.1 hq
    rcases h.up q h1 with h3 | h3
    · exact .inl h3
    · refine .inr (dropT_keys.2 ⟨h3, fun hg => h2 (ordF_down hL hg (kids_mem.2 h1))⟩)
theorem TWf.par {T : List (Int × Int)} (h : TWf T) {x p q : Int} (h1 : (x, p) ∈ T) (h2 : (x, q) ∈ T) : p = q := by
  obtain ⟨i, hi⟩ := List.getElem?_of_mem h1
  obtain ⟨j, hj⟩ := List.getElem?_of_mem h2
  have e1 : (T.map (·.1))[i]? = (T.map (·.1))[j]? := by rw [List.getElem?_map, List.getElem?_map, hi, hj]; rfl
  have hil : i < (T.map (·.1)).length := by rw [List.length_map]; exact (List.getElem?_eq_some_iff.1 hi).1
  have := (List.getElem?_inj hil h.nd).1 e1
  subst this
  rw [hi] at hj
  cases hj; rfl
theorem dropT_kids {T : List (Int × Int)} (h : TWf T) {n : Nat} {id x : Int} (hL : Low T n id) (hx : x ∉ ordF T n id) (hp : ∀ p, (id, p) ∈ T → p ≠ x) : kids (dropT T (ordF T n id)) x = kids T x := by
  unfold kids dropT
  rw [List.filter_filter]
  congr 1
  refine List.filter_congr fun q hq => ?_
  by_cases hqx : q.2 = x
  · have hn : q.1 ∉ ordF T n id := fun hg => by
      rcases ordF_up n id hg with h1 | ⟨p, hp1, hp2⟩
      · exact hp q.2 (by rw [← h1]; exact hq) hqx
      · have := h.par (x := q.1) (p := p) (q := q.2) hp2 hq
        rw [this, hqx] at hp1
        exact hx hp1
    simp [hqx, hn]
  · simp [hqx]
theorem TWf.up_lt {T : List (Int × Int)} (h : TWf T) {x p u : Int} {i j : Nat} (hi : T[i]? = some (x, p)) (hj : T[j]? = some (p, u)) : j < i := by
  obtain ⟨hi1, hi2⟩ := List.getElem?_eq_some_iff.1 hi
  obtain ⟨hj1, hj2⟩ := List.getElem?_eq_some_iff.1 hj
  by_cases h1 : j < i
  · exact h1
  · exfalso
    by_cases h2 : i = j
    · subst h2
      rw [hi] at hj
      have e : (x, p) = (p, u) := Option.some.inj hj
      exact h.ne (x, p) (List.mem_of_getElem? hi) (congrArg Prod.fst e).symm
    · have := List.pairwise_iff_getElem.1 h.od i j hi1 hj1 (by omega)
      rw [hi2, hj2] at this
      exact this rfl
theorem ordF_pos {T : List (Int × Int)} (h : TWf T) : ∀ (n : Nat) (a : Int) {i : Nat} {u : Int}, T[i]? = some (a, u) → ∀ {x : Int}, x ∈ ordF T n a → x = a ∨ ∃ (j : Nat) (v : Int), T[j]? = some (x, v) ∧ i < j
  | 0, a, i, u, hi, x, hx => by simp [ordF] at hx; exact .inl hx
  | n + 1, a, i, u, hi, x, hx => by
    unfold ordF at hx
    rcases List.mem_append.1 hx with h1 | h1
    · obtain ⟨k, hk, hxk⟩ := List.mem_flatMap.1 h1
      obtain ⟨j0, hj0⟩ := List.getElem?_of_mem (kids_mem.1 (List.mem_reverse.1 hk))
      have h2 := h.up_lt hj0 hi
      rcases ordF_pos h n k hj0 hxk with h3 | ⟨j, v, hj, h3⟩
      · subst h3; exact .inr ⟨j0, a, hj0, h2⟩
      · exact .inr ⟨j, v, hj, by omega⟩
    · simp at h1; exact .inl h1
theorem ordF_acyc {T : List (Int × Int)} (h : TWf T) {n : Nat} {a id : Int} (hk : a ∈ kids T id) (hx : id ∈ ordF T n a) : False := by
  obtain ⟨i, hi⟩ := List.getElem?_of_mem (kids_mem.1 hk)
  rcases ordF_pos h n a hi hx with h1 | ⟨j, v, hj, h1⟩
  · exact h.ne _ (kids_mem.1 hk) h1
  · have := h.up_lt hi hj; omega
theorem ordF_disj {T : List (Int × Int)} (h : TWf T) {n : Nat} {a b id : Int} (ha : a ∈ kids T id) (hb : b ∈ kids T id) (hab : a ≠ b) : ∀ (i : Nat) {x p : Int}, T[i]? = some (x, p) → x ∈ ordF T n a → x ∈ ordF T n b → False := by
  intro i
  induction i using Nat.strongRecOn with
  | ind i ih =>
    intro x p hi h1 h2
    have hxp := List.mem_of_getElem? hi
    rcases ordF_up n a h1 with h3 | ⟨q, hq, h3⟩
    · subst h3
      rcases ordF_up n b h2 with h4 | ⟨r, hr, h4⟩
      · exact hab h4
      · have := h.par h4 (kids_mem.1 ha)
        rw [this] at hr
        exact ordF_acyc h hb hr
    · rcases ordF_up n b h2 with h4 | ⟨r, hr, h4⟩
      · subst h4
        have := h.par h3 (kids_mem.1 hb)
        rw [this] at hq
        exact ordF_acyc h ha hq
      · have e := h.par h3 h4
        have hpq := h.par hxp h3
        rw [← e, ← hpq] at hr
        rw [← hpq] at hq
        -- the thing above is among them, too
        have hpm : ∃ u, (p, u) ∈ T := by
          rcases ordF_up n a hq with h5 | ⟨w, _, h5⟩
          · rw [h5]; exact ⟨id, kids_mem.1 ha⟩
          · exact ⟨w, h5⟩
        obtain ⟨u, hu⟩ := hpm
        obtain ⟨j, hj⟩ := List.getElem?_of_mem hu
        exact ih j (h.up_lt hi hj) hj hq hr
theorem kids_nd {T : List (Int × Int)} (h : TWf T) (id : Int) : (kids T id).Nodup := by
  unfold kids
  exact h.nd.sublist (List.Sublist.map _ (List.filter_sublist))
theorem ordF_nd {T : List (Int × Int)} (h : TWf T) : ∀ (n : Nat) (id : Int), (ordF T n id).Nodup
  | 0, id => by simp [ordF]
  | n + 1, id => by
    unfold ordF
    rw [List.nodup_append]
    refine ⟨?_, by simp, fun x hx y hy e => ?_⟩
    · show List.Pairwise _ _
      rw [List.pairwise_flatMap]
      refine ⟨fun k _ => ordF_nd h n k, ?_⟩
      refine List.Pairwise.imp_of_mem ?_ (List.pairwise_reverse.2 ((kids_nd h id).imp fun hh => Ne.symm hh))
      intro a b ha hb hab x hx y hy e
      subst e
      have ha := List.mem_reverse.1 ha
      have hb := List.mem_reverse.1 hb
      have hm : ∃ u, (x, u) ∈ T := by
        rcases ordF_up n a hx with h5 | ⟨w, _, h5⟩
        · rw [h5]; exact ⟨id, kids_mem.1 ha⟩
        · exact ⟨w, h5⟩
      obtain ⟨u, hu⟩ := hm
      obtain ⟨j, hj⟩ := List.getElem?_of_mem hu
      exact ordF_disj h ha hb hab j hj hx hy
    · simp at hy
      subst hy; subst e
      obtain ⟨k, hk, hx⟩ := List.mem_flatMap.1 hx
      exact ordF_acyc h (List.mem_reverse.1 hk) hx
end Go.Proofs.YtamecmklcnohjaaGreat.Sep
namespace Go.Proofs.YtamecmklcnohjaaGreat.Sep
open Go.RowKit
set_option linter.unusedSimpArgs false
set_option linter.unusedVariables false
def DQ (ds : List Deferred) (Q : Exit → Act → World → Prop) : Exit → Act → World → Prop := fun e a w => Q e ⟨a.tmps, a.defers ++ ds⟩ w
theorem eval_ds (tm : Array Value) (d d' : List Deferred) : (Act.mk tm d).eval = (Act.mk tm d').eval := by
  funext x; cases x <;> rfl
theorem put_ds (a : Act) (d : Option Nat) (v : Value) (ds : List Deferred) : (Act.mk a.tmps (a.defers ++ ds)).put d v = ⟨(a.put d v).tmps, (a.put d v).defers ++ ds⟩ := by cases d <;> rfl
theorem letsOut_DQ {ds : List Deferred} {Q : Exit → Act → World → Prop} (h : LetsOut (DQ ds Q)) : LetsOut Q := by
  obtain ⟨a, w, h⟩ := h
  exact ⟨_, w, h⟩
section
variable {P : Program} {all : Array Oper} {Q : Exit → Act → World → Prop} {ds : List Deferred}
theorem upon_more {o : Oper} {a : Act} {next next' : Act → World → Prop} (hn : ∀ a w, next a w → next' ⟨a.tmps, a.defers ++ ds⟩ w) {r : Result Next} (h : o.upon P a next (DQ ds Q) r) : o.upon P ⟨a.tmps, a.defers ++ ds⟩ next' Q r := by
  unfold Oper.upon at h ⊢
  split at h
  · rw [put_ds]; exact hn _ _ h
  · rw [put_ds]; exact hn _ _ h
  · have := hn _ _ h
    rename_i d w'
    have e := put_ds { a with defers := d :: a.defers } o.dst undef ds
    rw [← e] at this
    exact this
  · refine h.mono fun e w h => ?_
    cases e with
    | returned v => simp only at h ⊢; rw [put_ds]; exact hn _ _ h
    | panicked c => exact h
    | outgrown => exact letsOut_DQ h
  · refine h.mono fun v w h => ?_
    rw [put_ds]; exact hn _ _ h
  · exact h
  · exact h.elim
theorem wpList_more : ∀ (l : List Oper) (a : Act) (w : World), wpList P all (DQ ds Q) l a w → wpList P all Q l ⟨a.tmps, a.defers ++ ds⟩ w
  | [], a, w, h => h
  | o :: l, a, w, h => by
    unfold wpList at h ⊢
    by_cases hw : Region.wanted o (yielded all a.tmps) = true
    · rw [if_pos hw] at h
      rw [if_pos hw]
      rcases h with h | ⟨h1, h2⟩
      · left
        unfold Oper.wp at h ⊢
        rw [eval_ds a.tmps (a.defers ++ ds) a.defers]
        exact upon_more (wpList_more l) h
      · right
        refine ⟨?_, letsOut_DQ h2⟩
        unfold Oper.asks at h1 ⊢
        rw [eval_ds a.tmps (a.defers ++ ds) a.defers]
        exact h1
    · rw [if_neg hw] at h
      rw [if_neg hw, put_ds]
      exact wpList_more l _ w h
theorem wp_behind {w0 : World} {n : Nat} {e : Env} {L : List HP} {id : Nat} {ops : Array Oper} (h : XO ⟨P, w0, n, DQ ds Q⟩ ops [] ops.toList e L) {tm : Array Value} {w : World} (h1 : tm.size = n) (h2 : Agree e tm) (h3 : Sat w0 w L) : (Code.region id ops false).wp P Q ⟨tm, ds⟩ w :=
  wp_region_list (by have := wpList_more _ _ _ (h tm w h1 h2 h3); simpa using this)
abbrev FW (r : Option Nat) : Fence := { Fence.wide with round := r }
def noDef (o : Oper) : Bool := match o.op with | .defer _ => false | _ => true
theorem noDef_ne {o : Oper} (h : noDef o = true) : ∀ c, o.op ≠ .defer c := by
  intro c e
  unfold noDef at h
  rw [e] at h
  cases h
theorem uponIn_of {r : Option Nat} {nn : Nat} {o : Oper} {a : Act} {next next' : Act → World → Prop} {Q' : Exit → Act → World → Prop} (hn : ∀ a w, next a w → next' a w) (hp : ∀ c a w, Q (.panic c) a w → Q' (.panic c) a w) (ho : LetsOut Q → LetsOut Q') {x : Result Next} (h : o.upon P a next Q x) : o.uponIn (FW r) nn P a next' Q' x := by
  unfold Oper.upon at h
  unfold Oper.uponIn
  split at h
  · exact hn _ _ h
  · exact hn _ _ h
  · exact hn _ _ h
  · refine ⟨fun hh => by simp [Fence.wide] at hh, ?_⟩
    refine (callsIn_wide (n := nn - 1)).2 (h.mono fun e w h => ?_)
    cases e with
    | returned v => exact hn _ _ h
    | panicked c => exact hp _ _ _ h
    | outgrown => exact ho h
  · refine ⟨fun hh => by simp [Fence.wide] at hh, fun c cs _ => ?_⟩
    obtain ⟨v, w', hR, hs⟩ := h c cs
    exact ⟨v, w', hn _ _ hR, stepsIn_wide.2 hs⟩
  · exact hp _ _ _ h
  · exact h.elim
theorem wpIn_of {r : Option Nat} {nn : Nat} {o : Oper} {a : Act} {w : World} {next next' : Act → World → Prop} {Q' : Exit → Act → World → Prop} (hd : noDef o = true) (hn : ∀ a w, next a w → next' a w) (hp : ∀ c a w, Q (.panic c) a w → Q' (.panic c) a w) (ho : LetsOut Q → LetsOut Q') (h : o.wp P a w next Q) : o.wpIn (FW r) nn P a w next' Q' := by
  refine ⟨fun _ _ => trivial, ?_⟩
  rw [Oper.semAt_eq _ _ _ (noDef_ne hd)]
  exact uponIn_of hn hp ho h
theorem wpListIn_app {r : Option Nat} {nn : Nat} {R : Act → World → Prop} {post : List Oper} (hlo : ¬ LetsOut Q) (hR : ∀ a w, R a w → wpListIn (FW r) nn P all Q post a w) : ∀ (l : List Oper) (a : Act) (w : World), l.all noDef = true → wpList P all (Exit.then R Q) l a w → wpListIn (FW r) nn P all Q (l ++ post) a w
  | [], a, w, _, h => hR a w h
  | o :: l, a, w, hd, h => by
    rw [List.all_cons, Bool.and_eq_true] at hd
    rw [List.cons_append]
    unfold wpList at h
    unfold wpListIn
    by_cases hw : Region.wanted o (yielded all a.tmps) = true
    · rw [if_pos hw] at h
      rw [if_pos hw]
      rcases h with h | ⟨_, h2⟩
      · exact wpIn_of hd.1 (fun a w h => wpListIn_app hlo hR l a w hd.2 h) (fun c a w h => h) (fun h => h) h
      · exact absurd h2 (fun h => hlo h)
    · rw [if_neg hw] at h
      rw [if_neg hw]
      exact ⟨fun _ _ => trivial, wpListIn_app hlo hR l _ w hd.2 h⟩
theorem wpListIn_of {r : Option Nat} {nn : Nat} (hlo : ¬ LetsOut Q) (l : List Oper) (a : Act) (w : World) (hd : l.all noDef = true) (h : wpList P all Q l a w) : wpListIn (FW r) nn P all Q l a w := by
  have h' : wpList P all (Exit.then (Q .normal) Q) l a w := by
    have e : Exit.then (Q .normal) Q = Q := by funext x a w; cases x <;> rfl
    rw [e]; exact h
  have := wpListIn_app (r := r) (nn := nn) (post := []) (R := Q .normal) hlo (fun a w h => h) l a w hd h'
  rwa [List.append_nil] at this
end
theorem SL_mid {x : HP} : ∀ {A F : List HP} {H : PH}, SL (A ++ x :: F) H ↔ SL (x :: (A ++ F)) H
  | [], F, H => Iff.rfl
  | B :: A, F, H => by
    constructor
    · intro h
      exact SL.swap (SL.cons (fun _ hh => SL_mid.1 hh) h)
    · intro h
      exact SL.cons (fun _ hh => SL_mid.2 hh) (SL.swap h)
theorem Find.app {L R F : List HP} {A : HP} (h : Find L A R) : Find (L ++ F) A (R ++ F) := by
  induction h with
  | here => exact Find.here
  | there _ ih => exact Find.there ih
def XR (C : Cx) (l : Nat) (c : Code) (e : Env) (L : List HP) : Prop :=
  ∀ tm w, tm.size = C.n → Agree e tm → Sat C.w0 w L → c.wpIn (FW (some l)) 0 C.P C.Q ⟨tm, []⟩ w
section
variable {C : Cx} {l : Nat} {e : Env} {L : List HP}
theorem XR_region {id : Nat} {ops : Array Oper} (hlo : ¬ LetsOut C.Q) (hd : ops.toList.all noDef = true) (h : XO C ops [] ops.toList e L) : XR C l (.region id ops false) e L :=
  fun tm w h1 h2 h3 => wpIn_region_list (wpListIn_of hlo _ _ _ hd (h tm w h1 h2 h3))
theorem XR_block {id : Nat} {c : Code} (h : XR ⟨C.P, C.w0, C.n, Exit.inBlock id C.Q⟩ l c e L) : XR C l (.block id c) e L := fun tm w h1 h2 h3 => wpIn_block (h tm w h1 h2 h3)
theorem XE_any {x : Exit} (h : ∀ tm w, tm.size = C.n → Agree e tm → Sat C.w0 w L → C.Q x ⟨tm, []⟩ w) : XE C [] x e L := h
end
def recOf (fn : FuncId) (tm : Array Value) (ps : Array Tmp) (assign body : Code) (D : Nat) : Loop := { state := .ready, pending := none, fn, tmps := tm, params := ps, assign, body, defers := D }
section
variable {P : Program} {w0 : World}
def Ylds (P : Program) (w0 : World) (l : Nat) (vs : List Value) (L : List HP) (Φ : List HP → Prop) : Prop :=
  ∀ w F, Sat w0 w (L ++ F) → ∃ fn tmps assign body, (Instr.yield l vs.toArray).run P w = .ok (.round l fn tmps assign body) w ∧
    RoundIn Fence.wide 0 P l fn tmps assign body w fun en w' => en = .returned (.bool true) ∧ ∃ L', Φ L' ∧ Sat w0 w' (L' ++ F)
theorem sat_putObj {w : World} {b : Nat} {o o' : Obj} {L : List HP} (h : Sat w0 w (pt b o :: L)) : Sat w0 (w.putObj b o') (pt b o' :: L) := by
  have hb := h.block
  exact h.put rfl rfl rfl (World.putObj_heap_same (Array.getElem?_eq_some_iff.1 hb).1) (fun k hk => World.putObj_heap_other hk)
theorem ylds_intro {fn : FuncId} {tm : Array Value} {ps : Array Tmp} {assign body : Code} {D l : Nat} {vs : List Value} {L : List HP} {Φ : List HP → Prop} {e' e1 : Env} (hps : vs.length = ps.size)
    (he : Agree e' ((ps.zip vs.toArray).foldl (fun t (p, a) => t.setIfInBounds p a) tm)) {n : Nat} (hn : tm.size = n)
    (ha : ∀ F, XR ⟨P, w0, n, fun ex a w => ex = .normal ∧ a.defers = [] ∧ a.tmps.size = n ∧ Agree e1 a.tmps ∧ Sat w0 w (pt l (.loop (recOf fn tm ps assign body D)) :: (L ++ F))⟩ l assign e' (pt l (.loop (recOf fn tm ps assign body D)) :: (L ++ F)))
    (hb : ∀ F, XR ⟨P, w0, n, fun ex a w => ex = .normal ∧ ∃ L', Φ L' ∧ Sat w0 w (pt l (.loop { recOf fn tm ps assign body D with state := .busy }) :: (L' ++ F))⟩ l body e1 (pt l (.loop { recOf fn tm ps assign body D with state := .busy }) :: (L ++ F))) :
    Ylds P w0 l vs (pt l (.loop (recOf fn tm ps assign body D)) :: L) (fun L2 => ∃ L', Φ L' ∧ L2 = pt l (.loop (recOf fn tm ps assign body D)) :: L') := by
  intro w F hs
  have hl := Sat.block (show Sat w0 w (pt l _ :: (L ++ F)) from hs)
  have hy := run_yield (P := P) (args := vs.toArray) hl (by simp [hps, recOf])
  refine ⟨_, _, _, _, hy, ?_⟩
  have hsz : ((ps.zip vs.toArray).foldl (fun t (p, a) => t.setIfInBounds p a) tm).size = n := by
    rw [← hn]
    have key : ∀ (zs : List (Tmp × Value)) (t : Array Value), (zs.foldl (fun t (p, a) => t.setIfInBounds p a) t).size = t.size := by
      intro zs
      induction zs with
      | nil => intro t; rfl
      | cons z zs ih => intro t; rw [List.foldl_cons, ih]; simp
    rw [← Array.foldl_toList]; exact key _ _
  refine roundIn_of_wpIn trivial ?_
  refine wpIn_mono (ha F _ w hsz he hs) ?_
  rintro x a1 w1 ⟨rfl, hd, hsz1, hag1, hs1⟩
  obtain ⟨tm1, d1⟩ := a1
  simp only at hd hsz1 hag1
  subst hd
  have hl1 := hs1.block
  refine ⟨_, run_beginRound hl1 rfl, ?_⟩
  refine wpIn_mono (hb F tm1 _ hsz1 hag1 (sat_putObj hs1)) ?_
  rintro x a2 w2 ⟨rfl, L', hΦ, hs2⟩
  have hl2 := hs2.block
  refine ⟨_, _, run_endRound none hl2, rfl, _, ⟨L', hΦ, rfl⟩, ?_⟩
  exact sat_putObj (o' := .loop (recOf fn tm ps assign body D)) hs2
def XI (C : Cx) (all : Array Oper) (k : List KI) (ops : List Oper) (e : Env) (L : List HP) : Prop :=
  ∀ tm w, tm.size = C.n → Agree e tm → Sat C.w0 w L → wpListIn Fence.wide 0 C.P all (kq C k) ops ⟨tm, []⟩ w
theorem X_regionI {C : Cx} {k : List KI} {e : Env} {L : List HP} {id : Nat} {ops : Array Oper} (h : XI C ops k ops.toList e L) : X C k (.region id ops false) e L :=
  fun tm w h1 h2 h3 => wpIn_wide.1 (wpIn_region_list (h tm w h1 h2 h3))
section
variable {n : Nat} {Q : Exit → Act → World → Prop} {k : List KI} {e : Env} {L : List HP} {all : Array Oper} {rest : List Oper} {ty : TypeId} {pos : String} {aft : Array Edge} {d : Nat}
theorem XI_nil (h : XE ⟨P, w0, n, Q⟩ k .normal e L) : XI ⟨P, w0, n, Q⟩ all k [] e L := fun tm w h1 h2 h3 => h tm w h1 h2 h3
theorem XI_dv {op : Op} {Φ : Value → List HP → Prop} (h : DV P w0 op ty e L Φ) (hnd : noDef ⟨some d, op, ty, pos, aft, none⟩ = true := by rfl) (hd : d < n := by exact Nat.le_of_ble_eq_true rfl) (hk : ∀ v L', Φ v L' → XI ⟨P, w0, n, Q⟩ all k rest ((d, v) :: e) L') : XI ⟨P, w0, n, Q⟩ all k (⟨some d, op, ty, pos, aft, none⟩ :: rest) e L := by
  intro tm w h1 h2 h3
  unfold wpListIn
  rw [if_pos (show Region.wanted _ _ = true from rfl)]
  refine wpIn_of (r := none) (Q := fun _ _ _ => False) hnd (fun _ _ h => h) (fun _ _ _ h => h.elim) (fun ⟨_, _, h⟩ => h.elim) ?_
  exact h tm w pos aft (some d) _ _ h2 h3 fun v w' L' hΦ hs => hk v L' hΦ _ w' (by simp [Act.put, h1]) (h2.put (by rw [h1]; exact hd)) hs
theorem XI_pv {op : Op} {v : Value} (h : PV P op ty e v) (hnd : noDef ⟨some d, op, ty, pos, aft, none⟩ = true := by rfl) (hd : d < n := by exact Nat.le_of_ble_eq_true rfl) (hk : XI ⟨P, w0, n, Q⟩ all k rest ((d, v) :: e) L) : XI ⟨P, w0, n, Q⟩ all k (⟨some d, op, ty, pos, aft, none⟩ :: rest) e L :=
  XI_dv (dv_of_rv (rv_of_pv h)) hnd hd (fun _ _ ⟨h1, h2⟩ => by subst h1 h2; exact hk)
theorem XI_rv {op : Op} {v : Value} (h : RV P w0 op ty e L v) (hnd : noDef ⟨some d, op, ty, pos, aft, none⟩ = true := by rfl) (hd : d < n := by exact Nat.le_of_ble_eq_true rfl) (hk : XI ⟨P, w0, n, Q⟩ all k rest ((d, v) :: e) L) : XI ⟨P, w0, n, Q⟩ all k (⟨some d, op, ty, pos, aft, none⟩ :: rest) e L :=
  XI_dv (dv_of_rv h) hnd hd (fun _ _ ⟨h1, h2⟩ => by subst h1 h2; exact hk)
theorem XI_yield {g : Operand} {xs : Array Operand} {ts : Array TypeId} {l : Nat} {vs : List Value} {R : List HP} {L1 : List HP} {Φ : List HP → Prop} (hy : Ylds P w0 l vs L1 Φ) (hg : ev e g = some (.func (.yield l) #[] #[]) := by rfl) (hx : evl e xs.toList = some vs := by rfl)
    (hL : ∀ H, SL L H → SL (L1 ++ R) H) (hd : d < n := by exact Nat.le_of_ble_eq_true rfl) (hk : ∀ L', Φ L' → XI ⟨P, w0, n, Q⟩ all k rest ((d, .bool true) :: e) (L' ++ R)) : XI ⟨P, w0, n, Q⟩ all k (⟨some d, .call { callee := .value g, args := xs, argTypes := ts }, ty, pos, aft, none⟩ :: rest) e L := by
  intro tm w h1 h2 h3
  unfold wpListIn
  rw [if_pos (show Region.wanted _ _ = true from rfl)]
  obtain ⟨fn, tmps, assign, body, hrun, hround⟩ := hy w R (h3.map hL)
  refine ⟨fun _ _ => trivial, ?_⟩
  have hev := ev_sound (ds := []) h2 hg
  have hevl := evl_sound (ds := []) h2 hx
  have hargs : xs.map (Act.mk tm []).eval = vs.toArray := by
    apply Array.ext'
    simp [hevl]
  have hr : (execOp (Act.mk tm []).eval ⟨some d, .call { callee := .value g, args := xs, argTypes := ts }, ty, pos, aft, none⟩).run P w = .ok (.round l fn tmps assign body) w := by
    simp only [execOp, resolve, Deferred.ofValue, hev, hargs, invoke, Sem.run_bind, Sem.run_pure, Result.andThen_ok]
    exact (congrArg (fun a => (Instr.yield l a).run P w) (Array.ext' (by simp))).trans hrun
  have he : Oper.semAt Fence.wide.round (Act.mk tm []).eval ⟨some d, .call { callee := .value g, args := xs, argTypes := ts }, ty, pos, aft, none⟩ = execOp (Act.mk tm []).eval ⟨some d, .call { callee := .value g, args := xs, argTypes := ts }, ty, pos, aft, none⟩ := rfl
  rw [he, hr]
  refine ⟨fun hh => by simp [Fence.wide] at hh, hround.mono ?_⟩
  rintro en w' ⟨rfl, L', hΦ, hs⟩
  exact hk L' hΦ _ w' (by simp [Act.put, h1]) (h2.put (by rw [h1]; exact hd)) hs
end
theorem wp_range {n : Nat} {Q : Exit → Act → World → Prop} {e : Env} {L : List HP} {g : Operand} {ps : Array Tmp} {assign body : Code} {gf : FuncId} {lb : List Value} {Φ : Nat → Nat → List HP → Prop} (hg : ev e g = some (.func (.func gf) #[] lb.toArray))
    {tm : Array Value} {w : World} (h1 : tm.size = n) (h2 : Agree e tm) (h3 : Sat w0 w L) (hen : Enters P gf)
    (hcall : ∀ fn l D w, Sat w0 w (pt l (.loop (recOf fn tm ps assign body D)) :: pt D (.deferred (some [])) :: L) → Calls P gf (#[.func (.yield l) #[] #[]] ++ lb.toArray) w fun en w' => ∃ v L', en = .returned v ∧ Φ l D L' ∧ Sat w0 w' (pt l (.loop (recOf fn tm ps assign body D)) :: pt D (.deferred (some [])) :: L'))
    (hk : ∀ l D L' w, Φ l D L' → Sat w0 w (pt D (.deferred (some [])) :: L') → Q .normal ⟨tm, [{ target := .collected D, args := #[] }]⟩ w) : (Code.rangeFunc g ps assign body).wp P Q ⟨tm, []⟩ w := by
  refine (wpIn_wide (n := 1)).1 (wpIn_rangeFunc fun fn _ => ?_)
  have hev := ev_sound (ds := []) h2 hg
  obtain ⟨W1, hW1⟩ : ∃ W1, (w.alloc (.deferred (some []))).alloc (.loop (recOf fn tm ps assign body w.heap.size)) = W1 := ⟨_, rfl⟩
  refine ⟨w.heap.size + 1, [{ target := .collected w.heap.size, args := #[] }], W1, { target := .fn (.func gf) lb.toArray, args := #[.func (.yield (w.heap.size + 1)) #[] #[]] }, W1, gf,
    #[.func (.yield (w.heap.size + 1)) #[] #[]] ++ lb.toArray, W1, ?_, ?_, ?_, ?_, ?_, ?_⟩
  · rw [← hW1]; exact run_enterLoop_outer _ _ _ _ _
  · simp only [resolve, hev]
    simp [go_sem]
  · intro _ _; trivial
  · simp only [invoke, Sem.run_bind]
    exact hen _ _
  · intro hh; exact nomatch hh
  · refine callsIn_wide.2 ((hcall fn (w.heap.size + 1) w.heap.size _ ?_).mono ?_)
    · rw [← hW1]
      have := (h3.alloc (o := .deferred (some []))).alloc (o := .loop (recOf fn tm ps assign body w.heap.size))
      rw [World.size_alloc] at this
      exact this
    · rintro en w' ⟨v, L', rfl, hΦ, hs⟩
      have hl := hs.block
      refine ⟨_, _, run_endLoop hl (by simp [recOf]), ?_⟩
      show Q .normal _ _
      exact hk _ _ _ _ hΦ (sat_putObj hs).drop
theorem X_range2 {n : Nat} {Q : Exit → Act → World → Prop} {e : Env} {L R pre : List HP} {g : Operand} {ps : Array Tmp} {assign body : Code} {gf : FuncId} {lb : List Value} {Φ : List HP → Prop} {bk id : Nat} {ops : Array Oper} (hg : ev e g = some (.func (.func gf) #[] lb.toArray) := by rfl)
    (hf : FindAll L pre R)
    (hcall : ∀ tm, tm.size = n → Agree e tm → ∀ fn l D, Spec P gf (.func (.yield l) #[] #[] :: lb) (pt l (.loop (recOf fn tm ps assign body D)) :: pre) fun v L' => ∃ L1, Φ L1 ∧ L' = pt l (.loop (recOf fn tm ps assign body D)) :: L1)
    (hk : ∀ D L1, Φ L1 → XO ⟨P, w0, n, DQ [{ target := .collected D, args := #[] }] Q⟩ ops [] ops.toList e (pt D (.deferred (some [])) :: (L1 ++ R))) :
    X ⟨P, w0, n, Q⟩ [.block bk, .code (.region id ops false)] (.rangeFunc g ps assign body) e L := by
  intro tm w h1 h2 h3
  refine wp_range (n := n) (Q := kq ⟨P, w0, n, Q⟩ [.block bk, .code (.region id ops false)]) (Φ := fun l D L' => ∃ L1, Φ L1 ∧ L' = L1 ++ R) hg h1 h2 h3 (hcall tm h1 h2 0 0 0).1 ?_ ?_
  · intro fn l D w hs
    have hsp := (hcall tm h1 h2 fn l D).2 w0 w (pt D (.deferred (some [])) :: R) (hs.map fun H hh => ?_)
    · have e : (.func (.yield l) #[] #[] :: lb : List Value).toArray = #[.func (.yield l) #[] #[]] ++ lb.toArray := Array.ext' (by simp)
      rw [e] at hsp
      refine hsp.mono ?_
      rintro en w' ⟨v, L', rfl, ⟨L1, hΦ, rfl⟩, hs'⟩
      exact ⟨v, _, rfl, ⟨L1, hΦ, rfl⟩, hs'.map fun H hh => SL.cons (fun H hh => SL_mid.1 hh) hh⟩
    · exact SL.cons (fun H hh => SL_mid.2 (SL.cons (fun H hh => hf.fwd hh) hh)) hh
  · rintro l D L' w ⟨L1, hΦ, rfl⟩ hs
    exact wp_behind (hk D L1 hΦ) h1 h2 hs
theorem Spec.introM {f : FuncId} {fn : Func} {c : Code} {args : List Value} {pre : List HP} {post : Value → List HP → Prop} {n : Nat}
    (he : Enters P f) (hf : P.funcs[f]? = some fn) (hb : fn.body = some c) (hn : fn.ntmps = n) (hle : args.length ≤ n)
    (h : ∀ w0 F, X ⟨P, w0, n, bodyPostM Fence.wide 0 P fn fun e w' => ∃ v L', e = .returned v ∧ post v L' ∧ Sat w0 w' (L' ++ F)⟩ [] c (envOf args) (pre ++ F)) : Spec P f args pre post := by
  refine ⟨he, fun w0 w F hs => callsIn_wide.1 (callsIn_of_wp_marks (n := 0) hf hb trivial ?_)⟩
  have := h w0 F (args.toArray ++ Array.replicate (fn.ntmps - args.toArray.size) undef) w (by simp [hn]; omega) (agree_envOf _ _) hs
  exact wpIn_wide.2 this
theorem XE_retM {fn : Func} {n : Nat} {F : List HP} {post : Value → List HP → Prop} {e : Env} {L : List HP} {v : Value} {D : Nat} {x : Exit} (hx : x = .ret ∨ x = .normal)
    {Q' : Exit → Act → World → Prop} (hv : Tells ⟨P, w0, n, Q'⟩ fn e L v) (h : ∃ L', post v L' ∧ ∀ H, SL L H → SL (L' ++ F) H) :
    XE ⟨P, w0, n, DQ [{ target := .collected D, args := #[] }] (bodyPostM Fence.wide 0 P fn fun e w' => ∃ v L', e = .returned v ∧ post v L' ∧ Sat w0 w' (L' ++ F))⟩ [] x e (pt D (.deferred (some [])) :: L) := by
  obtain ⟨L', hp, hL⟩ := h
  intro tm w h1 h2 h3
  have hs2 := (sat_putObj (o' := .deferred none) h3).drop
  have fin : LeavesInM Fence.wide 0 P fn tm (fun e w' => ∃ v L', e = .returned v ∧ post v L' ∧ Sat w0 w' (L' ++ F)) [{ target := .collected D, args := #[] }] .returning w := by
    refine ⟨by simp, .inl ⟨D, _, rfl, run_takeDeferred h3.block, ?_⟩⟩
    exact ⟨v, hv tm _ h1 h2 hs2, v, L', rfl, hp, hs2.map hL⟩
  rcases hx with rfl | rfl <;> exact fin
end
end Go.Proofs.YtamecmklcnohjaaGreat.Sep
namespace Go.Proofs.YtamecmklcnohjaaGreat.Sep
open Go.RowKit
set_option linter.unusedSimpArgs false
set_option linter.unusedVariables false
section
variable {P : Program} {w0 : World} {n : Nat} {Q : Exit → Act → World → Prop} {k : List KI} {e : Env} {L R : List HP} {α : Type} {E' : E α}
theorem X_vopen {code : Code} {A : HP} {a : Option Addr} {xs : List α} (hf : Find L A R) (hV : View A E' a xs) (hp : 0 < xs.length) (h : ∀ b o, a = some ⟨b, o, none⟩ → X ⟨P, w0, n, Q⟩ k code e L) : X ⟨P, w0, n, Q⟩ k code e L := by
  intro tm w h1 h2 h3
  obtain ⟨H1, hA, _⟩ := (h3.find hf).atom
  rcases hV H1 hA with rfl | ⟨ad, rfl, hs, _⟩
  · simp at hp
  · obtain ⟨b, o, sp⟩ := ad
    simp only at hs
    subst hs
    exact h b o rfl tm w h1 h2 h3
end
set_option maxHeartbeats 8000000
attribute [local irreducible] X XE XO XD XDi XDa PV RV DV pt base Spec Sl Mp Keeps
attribute [local irreducible] View XI Ylds
theorem backward_spec (a : Option Addr) (n c : Nat) : Spec Tryz.prog 176 [.slice a n c] [] (fun v L => ∃ b, v = .func (.func 194) #[] #[.pointer (some ⟨b, 0, none⟩)] ∧ L = [pt b (.cells [.slice a n c].toArray 59 (0, 0))]) := by
  refine Spec.intro (IsEnt.out) Tryz.func176 rfl Tryz.ntmps176 (by simp) (fun w0 F => ?_)
  simp only [envOf, List.zipIdx, List.map, List.cons_append, List.nil_append, Nat.zero_add, Nat.reduceAdd]
  refine X_seq ?_
  refine X_region ?_
  refine XO_dv dv_box1 (hk := ?_)
  rintro _ _ ⟨b, rfl, rfl⟩
  (repeat refine Z ?_)
  refine XE_ret (.inl rfl) (tells_tmps rfl rfl) ⟨_, ⟨b, rfl, rfl⟩, by exact EN⟩
theorem back_spec (l b : Nat) (a : Option Addr) (n c : Nat) (xs : List Int) (hn : n = xs.length) (hmx : xs.length ≤ 9000000) (rc : HP) (I : Nat → List HP → Prop) (hV : ∀ i L, I i L → ∃ A R, Find L A R ∧ View A (eI .u64) a xs)
    (hy : ∀ w0 i x L, xs[i]? = some x → I (i + 1) L → Ylds Tryz.prog w0 l [.int .i64 i, .int .u64 x] (rc :: L) (fun L2 => ∃ L', I i L' ∧ L2 = rc :: L')) (L : List HP) (h0 : I xs.length L) :
    Spec Tryz.prog 194 [.func (.yield l) #[] #[], .pointer (some ⟨b, 0, none⟩)] (rc :: pt b (.cells [.slice a n c].toArray 59 (0, 0)) :: L) (fun v L' => v = .tuple #[] ∧ ∃ L0, I 0 L0 ∧ L' = rc :: pt b (.cells [.slice a n c].toArray 59 (0, 0)) :: L0) := by
  subst hn
  refine Spec.intro (IsEnt.out) Tryz.func194 rfl Tryz.ntmps194 (by simp) (fun w0 F => ?_)
  simp only [envOf, List.zipIdx, List.map, List.cons_append, List.nil_append, Nat.zero_add, Nat.reduceAdd]
  refine X_seq ?_
  (repeat refine Z ?_)
  refine X_loop (ι := Nat × List HP) (fun z => z.1 ≤ xs.length ∧ I z.1 z.2) (fun z => [(0, .func (.yield l) #[] #[]), (1, .pointer (some ⟨b, 0, none⟩)), (3, .int .i64 ((z.1 : Int) - 1))]) (fun z => pt b (.cells [.slice a xs.length c].toArray 59 (0, 0)) :: rc :: (z.2 ++ F)) (fun z => z.1) (xs.length, L) ⟨Nat.le_refl _, h0⟩ (by exact SBs) (fun _ h => SL.swap h) ?_
  rintro ⟨j, L1⟩ ⟨hj, hI⟩
  simp only at hj hI ⊢
  (repeat refine Z ?_)
  refine X_cond rfl (fun ht => ?_) (fun hf => ?_)
  · have ht' := of_decide_eq_true ht
    obtain ⟨i, rfl⟩ : ∃ i, j = i + 1 := ⟨j - 1, by omega⟩
    obtain ⟨x, hget⟩ : ∃ x, xs[i]? = some x := ⟨xs[i]'(by omega), by simp⟩
    obtain ⟨A, R, hf, hV'⟩ := hV (i + 1) L1 hI
    rw [show ((i + 1 : Nat) : Int) - 1 = (i : Int) from by omega]
    refine X_skip ?_
    refine XE_code ?_
    refine X_vopen (Find.there (Find.there (hf.app))) hV' (by omega) ?_
    rintro ab ao rfl
    have hget' : xs[(i : Int).toNat]? = some x := by simpa using hget
    clear hget
    refine X_seq ?_
    refine X_block ?_
    refine X_seq ?_
    refine X_regionI ?_
    repeat (first | refine XI_pv pv_move (hk := ?_) | refine XI_rv rv_load (hk := ?_) | refine XI_pv pv_index (hk := ?_) | refine XI_rv (rv_veA (hf := Find.there (Find.there (hf.app)))) (hk := ?_))
    refine XI_yield (R := pt b (.cells [.slice (some ⟨ab, ao, none⟩) xs.length c].toArray 59 (0, 0)) :: F) (hy w0 i x L1 (by simpa using hget') hI) (hL := fun _ h => SL_mid.2 h) (hk := ?_)
    rintro _ ⟨L2, hI2, rfl⟩
    refine XI_pv pv_not (hk := ?_)
    refine XI_nil ?_
    refine XE_code ?_
    refine X_cond rfl (fun h => by cases h) (fun _ => ?_)
    refine X_skip ?_
    refine XE_block ?_
    refine XE_code ?_
    (repeat refine Z ?_)
    refine X_round (i, L2) ⟨by omega, hI2⟩ (by simp) (by exact SBs) (fun _ h => SL_mid.1 h)
  · have hf' := of_decide_eq_false hf
    obtain rfl : j = 0 := by omega
    (repeat refine Z ?_)
    refine XE_ret (.inr rfl) (tells_tmps rfl rfl) ⟨_, ⟨rfl, L1, hI, rfl⟩, fun _ h => SL.swap h⟩
end Go.Proofs.YtamecmklcnohjaaGreat.Sep
namespace Go.Proofs.YtamecmklcnohjaaGreat.Sep
open Go.RowKit
set_option linter.unusedSimpArgs false
set_option linter.unusedVariables false
set_option maxHeartbeats 8000000
attribute [local irreducible] X XE XO XD XDi XDa PV RV DV pt base Spec Sl Mp Keeps
attribute [local irreducible] View
theorem indexU_spec (A B1 : HP) (a : Option Addr) (c : Nat) (xs : List Int) (fn : FuncId) (c1 : Value) (q : Int → Bool) (hV : View A (eI .u64) a xs) (hl : xs.length ≤ 4611686018427387904)
    (hq : ∀ r ∈ xs, Spec Tryz.prog fn [.int .u64 r, c1] [B1] (fun v L => v = .bool (q r) ∧ L = [B1])) :
    Spec Tryz.prog 177 [.slice a xs.length c, .func (.func fn) #[] #[c1]] [A, B1] (fun v L => v = .int .i64 (optI (xs.findIdx? q)) ∧ L = [A, B1]) := by
  refine Spec.intro (IsEnt.out) Tryz.func177 rfl Tryz.ntmps177 (by simp) (fun w0 F => ?_)
  simp only [envOf, List.zipIdx, List.map, List.cons_append, List.nil_append, Nat.zero_add, Nat.reduceAdd]
  (repeat refine Z ?_)
  refine X_loop (ι := Nat) (fun k => k ≤ xs.length ∧ ∀ j (hj : j < xs.length), j < k → q xs[j] = false) (fun k => [(0, .slice a xs.length c), (1, .func (.func fn) #[] #[c1]), (6, .slice a xs.length c), (7, .int .i64 (xs.length : Int)), (8, .int .i64 k)]) (fun _ => A :: B1 :: F) (fun k => xs.length - k) 0 ⟨Nat.zero_le _, fun _ _ h => by omega⟩ ?_ (by exact EN) ?_
  · exact SBs
  rintro k ⟨hk, hall⟩
  dsimp only at hk hall ⊢
  (repeat refine Z ?_)
  refine X_cond rfl (fun hc => ?_) (fun hc => ?_) <;> simp only [decide_eq_true_eq, decide_eq_false_iff_not] at hc
  · have hkl : k < xs.length := by omega
    refine X_view .here hV (by omega) ?_
    rintro b o rfl
    have hget : xs[(k : Int).toNat]? = some xs[k] := by simp
    (repeat refine Z ?_)
    refine XO_call (hq xs[k] (List.getElem_mem hkl)) (hk := ?_)
    rintro _ _ ⟨rfl, rfl⟩
    (repeat refine Z ?_)
    refine X_cond rfl (fun h3 => ?_) (fun h3 => ?_)
    · have he : xs.findIdx? q = some k := by
        rw [List.findIdx?_eq_some_iff_getElem]
        exact ⟨hkl, by simpa using h3, fun j hj => by simp [hall j (by omega) hj]⟩
      (repeat refine Z ?_)
      refine XE_ret (.inl rfl) (tells_tmps rfl rfl) ⟨_, ⟨?_, rfl⟩, by exact EN⟩
      rw [he]; rfl
    · (repeat refine Z ?_)
      refine X_round (k + 1) ⟨by omega, fun j hj hlt => ?_⟩ (by show xs.length - (k + 1) < xs.length - k; omega) (by exact SBs) (by exact EN)
      rcases Nat.lt_or_ge j k with h | h
      · exact hall j hj h
      · obtain rfl : j = k := by omega
        exact h3
  · obtain rfl : k = xs.length := by omega
    have he : xs.findIdx? q = none := by
      rw [List.findIdx?_eq_none_iff]
      intro x hx
      obtain ⟨j, hj, rfl⟩ := List.getElem_of_mem hx
      exact hall j hj hj
    (repeat refine Z ?_)
    refine XE_ret (.inl rfl) (tells_tmps rfl rfl) ⟨_, ⟨?_, rfl⟩, by exact EN⟩
    rw [he]; rfl
structure Dl (q : Int → Bool) (xs : List Int) (j i : Nat) (ys : List Int) : Prop where
  hj : j ≤ xs.length
  hy : ys.length = xs.length
  ht : ys.take i = (xs.take j).filter fun x => !q x
  hi : i < j
  hd : ys.drop j = xs.drop j
theorem Dl.skip {q : Int → Bool} {xs ys : List Int} {j i : Nat} {x : Int} (h : Dl q xs j i ys) (hx : xs[j]? = some x) (hq : q x = true) : Dl q xs (j + 1) i ys := by
  have hlt := (List.getElem?_eq_some_iff.1 hx).1
  refine ⟨by omega, h.hy, ?_, by have := h.hi; omega, ?_⟩
  · rw [h.ht, List.take_add_one, hx]; simp [hq]
  · have := h.hd
    rw [← List.drop_drop (i := 1) (j := j), ← List.drop_drop (i := 1) (j := j), this]
theorem Dl.move {q : Int → Bool} {xs ys : List Int} {j i : Nat} {x : Int} (h : Dl q xs j i ys) (hx : xs[j]? = some x) (hq : q x = false) : Dl q xs (j + 1) (i + 1) (ys.set i x) := by
  have hlt := (List.getElem?_eq_some_iff.1 hx).1
  have hi := h.hi
  have hy := h.hy
  refine ⟨by omega, by simp [hy], ?_, by omega, ?_⟩
  · rw [List.take_add_one, List.take_set_of_le (Nat.le_refl _), h.ht, List.take_add_one, hx]
    simp [hq, show i < ys.length from by omega]
  · rw [List.drop_set_of_lt (by omega), ← List.drop_drop (i := 1) (j := j), ← List.drop_drop (i := 1) (j := j), h.hd]
theorem Dl.start {q : Int → Bool} {xs : List Int} {i : Nat} (h : xs.findIdx? q = some i) : Dl q xs (i + 1) i xs := by
  rw [List.findIdx?_eq_some_iff_getElem] at h
  obtain ⟨hlt, hq, hb⟩ := h
  refine ⟨hlt, rfl, ?_, by omega, rfl⟩
  rw [List.take_add_one, List.filter_append]
  have h1 : (xs.take i).filter (fun x => !q x) = xs.take i := by
    rw [List.filter_eq_self]
    intro x hx
    obtain ⟨j, hj, rfl⟩ := List.getElem_of_mem hx
    have hj' : j < i := by rw [List.length_take] at hj; omega
    rw [List.getElem_take]
    have := hb j hj'
    simpa using this
  rw [h1]
  simp [hlt, hq]
theorem Dl.get {q : Int → Bool} {xs ys : List Int} {j i : Nat} (h : Dl q xs j i ys) : ys[j]? = xs[j]? := by
  have := congrArg (fun l : List Int => l[0]?) h.hd
  simpa using this
theorem delU_spec (B1 : HP) (a : Option Addr) (c : Nat) (xs : List Int) (fn : FuncId) (c1 : Value) (q : Int → Bool) (hl : xs.length ≤ 4611686018427387904)
    (hq : ∀ r ∈ xs, Spec Tryz.prog fn [.int .u64 r, c1] [B1] (fun v L => v = .bool (q r) ∧ L = [B1])) :
    Spec Tryz.prog 149 [.slice a xs.length c, .func (.func fn) #[] #[c1]] [Sl (eI .u64) a c xs, B1] (fun v L => v = .slice a (xs.filter fun x => !q x).length c ∧ L = [Sl (eI .u64) a c (xs.filter fun x => !q x), B1]) := by
  refine Spec.intro (IsEnt.out) Tryz.func149 rfl Tryz.ntmps149 (by simp) (fun w0 F => ?_)
  simp only [envOf, List.zipIdx, List.map, List.cons_append, List.nil_append, Nat.zero_add, Nat.reduceAdd]
  (repeat refine Z ?_)
  refine XO_call (indexU_spec (Sl (eI .u64) a c xs) B1 a c xs fn c1 q Sl.view hl hq) (hk := ?_)
  rintro _ _ ⟨rfl, rfl⟩
  (repeat refine Z ?_)
  cases hfi : xs.findIdx? q with
  | none =>
    refine X_cond rfl (fun _ => ?_) (fun hc => by simp [optI] at hc)
    have hff : (xs.filter fun x => !q x) = xs := by
      rw [List.filter_eq_self]
      rw [List.findIdx?_eq_none_iff] at hfi
      intro x hx; simp [hfi x hx]
    rw [hff]
    (repeat refine Z ?_)
    refine XE_ret (.inl rfl) (tells_tmps rfl rfl) ⟨_, ⟨rfl, rfl⟩, by exact EN⟩
  | some i0 =>
    have hs0 := Dl.start hfi
    have hi0 := hs0.hj
    have e1 : optI (some i0) = (i0 : Int) := rfl
    rw [e1]
    refine X_cond rfl (fun hc => by simp at hc) (fun _ => ?_)
    refine X_slopen (E' := eI .u64) (a := a) (c := c) (xs := xs) .here (by omega) ?_
    rintro b o rfl
    refine X_fact (A := Sl (eI .u64) (some ⟨b, o, none⟩) c xs) .here Sl.cap (fun hcap => ?_)
    (repeat refine Z ?_)
    refine X_loop (ι := Nat × Nat × List Int) (fun z => Dl q xs z.1 z.2.1 z.2.2) (fun z => [(0, .slice (some ⟨b, o, none⟩) xs.length c), (1, .func (.func fn) #[] #[c1]), (5, .int .i64 (z.2.1 : Int)), (6, .int .i64 (z.1 : Int))]) (fun z => Sl (eI .u64) (some ⟨b, o, none⟩) c z.2.2 :: B1 :: F) (fun z => xs.length - z.1) (i0 + 1, i0, xs) hs0 ?_ (by exact EN) ?_
    · exact SBs
    rintro ⟨j, i, ys⟩ hD
    dsimp only at hD ⊢
    have hj := hD.hj
    have hi := hD.hi
    have hyl := hD.hy
    (repeat refine Z ?_)
    refine X_cond rfl (fun hc => ?_) (fun hc => ?_) <;> simp only [decide_eq_true_eq, decide_eq_false_iff_not] at hc
    · have hjl : j < xs.length := by omega
      obtain ⟨x, hx⟩ : ∃ x, xs[j]? = some x := ⟨xs[j], by simp [hjl]⟩
      have hget : ys[(j : Int).toNat]? = some x := by rw [Int.toNat_natCast, hD.get]; exact hx
      (repeat refine Z ?_)
      refine XO_call (hq x (List.mem_of_getElem? hx)) (hk := ?_)
      rintro _ _ ⟨rfl, rfl⟩
      (repeat refine Z ?_)
      refine X_cond rfl (fun h3 => ?_) (fun h3 => ?_)
      · have h3' : q x = false := by simpa using h3
        (repeat refine Z ?_)
        refine XO_dv0 (dv_put1 (E' := eI .u64) (i := (i : Int).toNat) (x' := x) (xs := ys)) (hk := ?_)
        rintro _ _ rfl
        rw [Int.toNat_natCast]
        (repeat refine Z ?_)
        refine X_round (j + 1, i + 1, ys.set i x) (hD.move hx h3') (by show xs.length - (j + 1) < xs.length - j; omega) (by exact SBs) (by exact EN)
      · have h3' : q x = true := by simpa using h3
        (repeat refine Z ?_)
        refine X_round (j + 1, i, ys) (hD.skip hx h3') (by show xs.length - (j + 1) < xs.length - j; omega) (by exact SBs) (by exact EN)
    · obtain rfl : j = xs.length := by omega
      have hfl : (xs.filter fun x => !q x) = ys.take i := by rw [hD.ht, List.take_of_length_le (Nat.le_refl _)]
      (repeat refine Z ?_)
      have hsub : subA (some ⟨b, o, none⟩) (i : Int).toNat c 1 = some ⟨b, o + i, none⟩ := by
        have hne : ¬ c = i := by omega
        simp [subA, hne, Addr.add]
      rw [hsub]
      refine XO_dv0 (dv_clearAt (xs := ys) i rfl (hm := by simp; omega)) (hk := ?_)
      rintro _ _ rfl
      (repeat refine Z ?_)
      have hlen : (ys.take i).length = i := by rw [List.length_take]; omega
      refine XE_ret (.inl rfl) (tells_tmps rfl rfl) ⟨_, ⟨?_, rfl⟩, fun H hh => SL.head (fun H hh => ?_) hh⟩
      · rw [hfl, hlen]; simp [tup]
      · rw [hfl]
        have := Sl.take (m := i) H hh
        rwa [List.take_append_of_le_length (by rw [hlen]; exact Nat.le_refl _), List.take_of_length_le (by rw [hlen]; exact Nat.le_refl _)] at this
end Go.Proofs.YtamecmklcnohjaaGreat.Sep
namespace Go.Proofs.YtamecmklcnohjaaGreat.Sep
open Go.RowKit
set_option linter.unusedSimpArgs false
set_option linter.unusedVariables false
abbrev NX := Int × Nat × Option Addr × Nat
abbrev nbX (q : NX) : Int × Nat := (q.1, q.2.1)
def NodeX (T : List (Int × Int)) (q : NX) : HP := fun H => SL [pt q.2.1 (.cells [.int .u64 (parT T q.1), .slice q.2.2.1 (kids T q.1).length q.2.2.2].toArray 233 (0, 0)), Sl (eI .u64) q.2.2.1 q.2.2.2 (kids T q.1)] H
theorem star_x {T : List (Int × Int)} : ∀ (N : List (Int × Nat)) (H : PH), Star (NodeOf T) N H → ∃ M : List NX, M.map nbX = N ∧ Star (NodeX T) M H
  | [], H, _ => ⟨[], rfl, trivial⟩
  | q :: N, H, h => by
    obtain ⟨H1, H2, d, u, ⟨x, hx⟩, h2⟩ := h
    obtain ⟨M, hM, hs⟩ := star_x N H2 h2
    exact ⟨(q.1, q.2, x.1, x.2) :: M, by simp [hM, nbX], H1, H2, d, u, hx, hs⟩
theorem x_star {T : List (Int × Int)} : ∀ (M : List NX) (H : PH), Star (NodeX T) M H → Star (NodeOf T) (M.map nbX) H
  | [], H, _ => trivial
  | q :: M, H, h => by
    obtain ⟨H1, H2, d, u, hx, h2⟩ := h
    exact ⟨H1, H2, d, u, ⟨(q.2.2.1, q.2.2.2), hx⟩, x_star M H2 h2⟩
theorem star_get {T : List (Int × Int)} {M : List NX} {i : Nat} {q : NX} (h : M[i]? = some q) {H : PH} (hs : Star (NodeX T) M H) : ∃ H1, NodeX T q H1 ∧ ∀ b o, H1 b = some o → H b = some o := by
  obtain ⟨_, _, hh⟩ := Star.outI (f := NodeX T) h H hs
  exact SL.le_self hh
theorem starX_holds {T : List (Int × Int)} {M : List NX} {i : Nat} {q : NX} (h : M[i]? = some q) : Holds (Star (NodeX T) M) q.2.1 1 [.slice q.2.2.1 (kids T q.1).length q.2.2.2] := by
  intro H hs
  obtain ⟨H1, hn, hsub⟩ := star_get h hs
  obtain ⟨H2, hp, hsub2⟩ := SL.le_self hn
  refine ⟨_, _, _, hsub _ _ (hsub2 _ _ hp), fun j v hj => ?_⟩
  cases j with
  | zero => simpa using hj
  | succ j => simp at hj
theorem starX_view {T : List (Int × Int)} {M : List NX} {i : Nat} {q : NX} (h : M[i]? = some q) : View (Star (NodeX T) M) (eI .u64) q.2.2.1 (kids T q.1) := by
  intro H hs
  obtain ⟨H1, hn, hsub⟩ := star_get h hs
  obtain ⟨H2, hd, hsub2⟩ := SL.drop hn
  obtain ⟨H3, hp, hsub3⟩ := SL.le_self hd
  rcases Sl.view H3 hp with h0 | ⟨ad, h1, h2, row, TT, fr, h3, h4⟩
  · exact .inl h0
  · exact .inr ⟨ad, h1, h2, row, TT, fr, hsub _ _ (hsub2 _ _ (hsub3 _ _ h3)), h4⟩
def TX (t mb : Nat) (T : List (Int × Int)) (M : List NX) : List HP := [pt t (.cells [.map (some mb)].toArray 236 (0, 0)), Mp vU npV mb (ndB (M.map nbX)), Star (NodeX T) M]
theorem Tre.openX {b : Nat} {T : List (Int × Int)} : ∀ H, Tre b T H → ∃ x : Nat × List NX, x.2.map (·.1) = 0 :: T.map (·.1) ∧ SL (TX b x.1 T x.2) H := by
  rintro H ⟨⟨mb, N⟩, hN, hs⟩
  obtain ⟨H1, H2, d, u, h1, H3, H4, d', u', h2, H5, H6, d'', u'', h3, h4⟩ := hs
  obtain ⟨M, rfl, hM⟩ := star_x N H5 h3
  refine ⟨(mb, M), ?_, H1, H2, d, u, h1, H3, H4, d', u', h2, H5, H6, d'', u'', hM, h4⟩
  simp only [List.map_map] at hN
  exact hN
theorem Tre.foldX {b mb : Nat} {T : List (Int × Int)} {M : List NX} (h : M.map (·.1) = 0 :: T.map (·.1)) : ∀ H, SL (TX b mb T M) H → Tre b T H := by
  rintro H ⟨H1, H2, d, u, h1, H3, H4, d', u', h2, H5, H6, d'', u'', h3, h4⟩
  refine ⟨(mb, M.map nbX), by simp only [List.map_map]; exact h, H1, H2, d, u, h1, H3, H4, d', u', h2, H5, H6, d'', u'', x_star M H5 h3, h4⟩
set_option maxHeartbeats 8000000
attribute [local irreducible] X XE XO XD XDi XDa PV RV DV pt base Spec Sl Mp Keeps
attribute [local irreducible] View XI Ylds Star NodeX Holds kids
abbrev vis (t tb vb ob mb : Nat) (T : List (Int × Int)) (M : List NX) (oa : Option Addr) (oc : Nat) (out : List Int) : List HP :=
  [pt tb (.cells [.pointer (some ⟨t, 0, none⟩)].toArray 161 (0, 0)), pt vb (.cells [.func (.func 175) #[] #[.pointer (some ⟨tb, 0, none⟩), .pointer (some ⟨vb, 0, none⟩), .pointer (some ⟨ob, 0, none⟩)]].toArray 175 (0, 0)),
   pt t (.cells [.map (some mb)].toArray 236 (0, 0)), Mp vU npV mb (ndB (M.map nbX)), Star (NodeX T) M, pt ob (.cells [.slice oa out.length oc].toArray 59 (0, 0)), Sl (eI .u64) oa oc out]
def visit (t tb vb ob mb : Nat) (T : List (Int × Int)) (M : List NX) (id : Int) (g : List Int) : Prop :=
  ∀ (oa : Option Addr) (oc : Nat) (out : List Int), out.length + g.length ≤ 4000000 → Spec Tryz.prog 175 [.int .u64 id, .pointer (some ⟨tb, 0, none⟩), .pointer (some ⟨vb, 0, none⟩), .pointer (some ⟨ob, 0, none⟩)] (vis t tb vb ob mb T M oa oc out)
    (fun v L => ∃ oa' oc', v = .tuple #[] ∧ L = vis t tb vb ob mb T M oa' oc' (out ++ g))
theorem visit_step (t tb vb ob mb : Nat) {T : List (Int × Int)} {M : List NX} (hM : M.map (·.1) = 0 :: T.map (·.1)) (hl : T.length ≤ 1000000) (g : Int → List Int) (id : Int) (hid : id ∈ M.map (·.1)) (hrec : ∀ c ∈ kids T id, visit t tb vb ob mb T M c (g c)) :
    visit t tb vb ob mb T M id ((kids T id).reverse.flatMap g ++ [id]) := by
  intro oa oc out hb
  have hkl := kids_len T id
  obtain ⟨i, nb, hi, hlk⟩ := lk_ix (N := M.map nbX) (id := id) (by rw [List.map_map]; exact hid)
  have hlk2 : lk (ndB (M.map nbX)) id = some (some nb) := by rw [ndB_lk, hlk]; rfl
  obtain ⟨q, hq, hqe⟩ : ∃ q, M[i]? = some q ∧ nbX q = (id, nb) := by
    rw [List.getElem?_map] at hi
    cases hm : M[i]? with
    | none => rw [hm] at hi; simp at hi
    | some q => rw [hm] at hi; exact ⟨q, rfl, by simpa using hi⟩
  obtain ⟨q1, q2, ka, kc⟩ := q
  simp only [nbX, Prod.mk.injEq] at hqe
  obtain ⟨rfl, rfl⟩ := hqe
  have hH := starX_holds (T := T) hq
  have hV := starX_view (T := T) hq
  simp only at hH hV
  refine Spec.introM (IsEnt.out) Tryz.func175 rfl Tryz.ntmps175 (by simp) (fun w0 F => ?_)
  simp only [envOf, List.zipIdx, List.map, List.cons_append, List.nil_append, Nat.zero_add, Nat.reduceAdd]
  (repeat refine Z ?_)
  refine XO_rv (rv_lookup (ke := vU) (ve := npV) (kk := q1) (d0 := none)) (hk := ?_)
  rw [hlk2]
  (repeat refine Z ?_)
  refine XO_rv (rv_load1 (A := Star (NodeX T) M) rfl (by exact FDs) rfl hH) (hk := ?_)
  (repeat refine Z ?_)
  refine XO_call (backward_spec ka (kids T q1).length kc) (hk := ?_)
  rintro _ _ ⟨bx, rfl, rfl⟩
  refine XO_nil ?_
  refine XE_code ?_
  refine X_block ?_
  refine X_range2 (gf := 194) (lb := [.pointer (some ⟨bx, 0, none⟩)]) (pre := pt bx (.cells [.slice ka (kids T q1).length kc].toArray 59 (0, 0)) :: vis t tb vb ob mb T M oa oc out) (R := F) (Φ := fun L => ∃ oa' oc', L = pt bx (.cells [.slice ka (kids T q1).length kc].toArray 59 (0, 0)) :: vis t tb vb ob mb T M oa' oc' (out ++ (kids T q1).reverse.flatMap g)) (hf := by exact FAs) (hcall := ?_) (hk := ?_)
  · intro tm hn hag fn l D
    refine (back_spec l bx ka _ kc (kids T q1) rfl (by omega) (pt l (.loop (recOf fn tm _ _ _ D))) (fun j L => ∃ oa' oc', L = vis t tb vb ob mb T M oa' oc' (out ++ ((kids T q1).drop j).reverse.flatMap g)) ?_ ?_ _ ⟨oa, oc, by simp⟩).mono ?_
    · rintro j L ⟨oa', oc', rfl⟩
      exact ⟨Star (NodeX T) M, _, by exact FDs, hV⟩
    · rintro w0 j x L hx ⟨oa', oc', rfl⟩
      have hxk : x ∈ kids T q1 := List.mem_of_getElem? hx
      have hsplit : ((kids T q1).drop j).reverse.flatMap g = ((kids T q1).drop (j + 1)).reverse.flatMap g ++ g x := by
        have hlt := (List.getElem?_eq_some_iff.1 hx).1
        have he := (List.getElem?_eq_some_iff.1 hx).2
        rw [List.drop_eq_getElem_cons hlt, he]
        simp
      have hle : (out ++ ((kids T q1).drop (j + 1)).reverse.flatMap g).length + (g x).length ≤ 4000000 := by
        have e1 : ((kids T q1).reverse.flatMap g) = (((kids T q1).drop (j + 1)).reverse.flatMap g ++ g x) ++ ((kids T q1).take j).reverse.flatMap g := by
          rw [← hsplit, ← List.flatMap_append, ← List.reverse_append, List.take_append_drop]
        rw [e1] at hb
        simp only [List.length_append] at hb ⊢
        omega
      have h1 := hag.put (d := 17) (v := .int .i64 j) (by rw [hn]; exact Nat.le_of_ble_eq_true rfl)
      have h2 := h1.put (d := 18) (v := .int .u64 x) (by rw [Array.size_setIfInBounds, hn]; exact Nat.le_of_ble_eq_true rfl)
      refine ylds_intro (e1 := [(6, .int .u64 x), (2, .pointer (some ⟨vb, 0, none⟩))]) (Φ := fun L' => ∃ oa' oc', L' = vis t tb vb ob mb T M oa' oc' (out ++ ((kids T q1).drop j).reverse.flatMap g)) rfl (e' := (18, .int .u64 x) :: (17, .int .i64 j) :: [(16, Value.func (Fn.func 194) #[] #[Value.pointer (some { block := bx, off := 0 })]), (2, Value.pointer (some { block := vb, off := 0 }))]) (by
        rw [← Array.foldl_toList, Array.toList_zip]
        exact h2.sub (by exact SBs)) hn ?_ ?_
      · intro F
        refine XR_region (fun ⟨_, _, h, _⟩ => by cases h) rfl ?_
        (repeat refine Z ?_)
        refine XE_any fun tm w h1 h2 h3 => ⟨rfl, rfl, h1, h2.sub (by exact SBs), h3⟩
      · intro F
        refine XR_block ?_
        refine XR_region (fun ⟨_, _, h, _⟩ => by cases h) rfl ?_
        (repeat refine Z ?_)
        refine XO_call (hrec x hxk oa' oc' _ hle) (hk := ?_)
        rintro _ _ ⟨oa2, oc2, rfl, rfl⟩
        refine XO_nil ?_
        rw [List.append_assoc, ← hsplit]
        refine XE_any fun tm w h1 h2 h3 => ⟨rfl, _, ⟨oa2, oc2, rfl⟩, h3.map fun _ h => SL_mid.1 h⟩
    · rintro v L' ⟨rfl, L0, ⟨oa', oc', rfl⟩, rfl⟩
      exact ⟨_, ⟨oa', oc', rfl⟩, rfl⟩
  · rintro D L1 ⟨oa', oc', rfl⟩
    (repeat refine Z ?_)
    refine XO_lit (E' := eI .u64) [q1] (hk := ?_)
    intro lb
    (repeat refine Z ?_)
    refine XO_dv (dv_append (E' := eI .u64) (xs := out ++ (kids T q1).reverse.flatMap g) (ys := [q1]) (hv := Sl.view) (hb := by simp at hb ⊢; omega)) (hk := ?_)
    rintro _ _ ⟨oa2, oc2, rfl, rfl⟩
    (repeat refine Z ?_)
    refine XO_dv0 dv_store (hk := ?_)
    rintro _ _ rfl
    refine XO_nil ?_
    rw [List.append_assoc]
    refine XE_conv (L' := pt D (.deferred (some [])) :: (vis t tb vb ob mb T M oa2 oc2 (out ++ ((kids T q1).reverse.flatMap g ++ [q1])) ++ F)) (by exact EN) ?_
    refine XE_retM (.inr rfl) (Q' := fun _ _ _ => True) (tells_tmps rfl rfl) ⟨_, ⟨oa2, oc2, rfl, rfl⟩, fun _ h => h⟩
theorem visit_all (t tb vb ob mb : Nat) {T : List (Int × Int)} {M : List NX} (hM : M.map (·.1) = 0 :: T.map (·.1)) (hl : T.length ≤ 1000000) : ∀ (n : Nat) (id : Int), Low T n id → id ∈ M.map (·.1) → visit t tb vb ob mb T M id (ordF T n id)
  | 0, id, hL, hid => by
    have hk : kids T id = [] := hL
    have := visit_step t tb vb ob mb hM hl (fun _ => []) id hid (fun c hc => by rw [hk] at hc; cases hc)
    rw [hk] at this
    exact this
  | n + 1, id, hL, hid => by
    have hL' : ∀ c ∈ kids T id, Low T n c := hL
    exact visit_step t tb vb ob mb hM hl (ordF T n) id hid (fun c hc => visit_all t tb vb ob mb hM hl n c (hL' c hc) (by rw [hM]; exact List.mem_cons.2 (.inr (List.mem_map.2 ⟨_, kids_mem.1 hc, rfl⟩))))
theorem sub_len : ∀ (l K : List Int), l.Nodup → (∀ x ∈ l, x ∈ K) → l.length ≤ K.length
  | [], K, _, _ => Nat.zero_le _
  | x :: l, K, hn, hs => by
    have hx := hs x (by simp)
    rw [List.nodup_cons] at hn
    have h1 := sub_len l (K.erase x) hn.2 (fun y hy => (List.mem_erase_of_ne (fun (e : y = x) => hn.1 (by rw [← e]; exact hy))).2 (hs y (List.mem_cons.2 (.inr hy))))
    rw [List.length_erase_of_mem hx] at h1
    have := List.length_pos_of_mem hx
    simp only [List.length_cons]; omega
theorem ordF_in {T : List (Int × Int)} {n : Nat} {id x : Int} (hid : id ∈ T.map (·.1)) (h : x ∈ ordF T n id) : x ∈ T.map (·.1) := by
  rcases ordF_up n id h with h1 | ⟨p, _, h1⟩
  · rw [h1]; exact hid
  · exact List.mem_map.2 ⟨_, h1, rfl⟩
theorem ordF_len {T : List (Int × Int)} (h : TWf T) {n : Nat} {id : Int} (hid : id ∈ T.map (·.1)) : (ordF T n id).length ≤ T.length := by
  have := sub_len _ _ (ordF_nd h n id) (fun x hx => ordF_in hid hx)
  rwa [List.length_map] at this
abbrev ordT (T : List (Int × Int)) (id : Int) : List Int := ordF T T.length id
theorem order_spec (t : Nat) (T : List (Int × Int)) (hw : TWf T) (id : Int) (h0 : id ≠ 0) (hid : id ∈ T.map (·.1)) (hl : T.length ≤ 1000000) : Spec Tryz.prog 147 [.pointer (some ⟨t, 0, none⟩), .int .u64 id] [Tre t T] (fun v L => ∃ a c, v = .slice a (ordT T id).length c ∧ L = [Tre t T, Sl (eI .u64) a c (ordT T id)]) := by
  have hol := ordF_len hw (n := T.length) hid
  refine Spec.intro (IsEnt.out) Tryz.func147 rfl Tryz.ntmps147 (by simp) (fun w0 F => ?_)
  simp only [envOf, List.zipIdx, List.map, List.cons_append, List.nil_append, Nat.zero_add, Nat.reduceAdd]
  refine X_seq ?_
  refine X_region ?_
  refine XO_dv dv_box1 (hk := ?_)
  rintro _ _ ⟨tb, rfl, rfl⟩
  (repeat refine Z ?_)
  refine XO_call (tr_has t T id h0 hid) (hk := ?_)
  rintro _ _ ⟨rfl, rfl⟩
  (repeat refine Z ?_)
  refine X_cond rfl (fun h => by cases h) (fun _ => ?_)
  (repeat refine Z ?_)
  refine XO_dv dv_alloc (hk := ?_)
  rintro _ _ ⟨ob, rfl, rfl⟩
  (repeat refine Z ?_)
  refine XO_dv dv_alloc (hk := ?_)
  rintro _ _ ⟨vb, rfl, rfl⟩
  (repeat refine Z ?_)
  refine XO_dv0 dv_store (hk := ?_)
  rintro _ _ rfl
  (repeat refine Z ?_)
  refine XO_conv (fun _ h => SL_nilSl (eI .u64) h) ?_
  refine XO_open (A := Tre t T) (by exact FDs) Tre.openX ?_
  rintro ⟨mb, M⟩ hM
  dsimp only [TX, List.cons_append, List.nil_append] at hM ⊢
  refine XO_call (visit_all t tb vb ob mb hM hl T.length id (low_all hw id) (by rw [hM]; exact List.mem_cons.2 (.inr hid)) none 0 [] (by simp; omega)) (hk := ?_)
  rintro _ _ ⟨oa, oc, rfl, rfl⟩
  rw [List.nil_append]
  (repeat refine Z ?_)
  refine XE_fold (S := TX t mb T M) (by unfold TX; exact FAs) (Tre.foldX hM) ?_
  refine XE_ret (.inl rfl) (tells_tmps rfl rfl) ⟨_, ⟨oa, oc, rfl, rfl⟩, by exact EN⟩
end Go.Proofs.YtamecmklcnohjaaGreat.Sep
namespace Go.Proofs.YtamecmklcnohjaaGreat.Sep
open Go.RowKit
set_option linter.unusedSimpArgs false
set_option linter.unusedVariables false
theorem lk_drop {T : List (Int × Int)} {G : List Int} {x : Int} (hx : x ∉ G) : lk (dropT T G) x = lk T x := by
  unfold dropT
  induction T with
  | nil => rfl
  | cons q T ih =>
    obtain ⟨k, v⟩ := q
    by_cases hk : k ∈ G
    · have hne : ¬ x = k := fun e => hx (e ▸ hk)
      rw [List.filter_cons_of_neg (by simp [hk]), ih]
      simp [lk, hne]
    · rw [List.filter_cons_of_pos (by simp [hk])]
      simp only [lk]
      rw [ih]
theorem parT_drop {T : List (Int × Int)} {G : List Int} {x : Int} (hx : x ∉ G) : parT (dropT T G) x = parT T x := by unfold parT; rw [lk_drop hx]
theorem lk_mem {T : List (Int × Int)} : ∀ {id p : Int}, lk T id = some p → (id, p) ∈ T := by
  induction T with
  | nil => intro id p h; simp [lk] at h
  | cons q T ih =>
    intro id p h
    obtain ⟨k, v⟩ := q
    simp only [lk] at h
    split at h
    · rename_i e; cases h; rw [e]; exact List.mem_cons_self
    · exact List.mem_cons_of_mem _ (ih h)
theorem parT_mem {T : List (Int × Int)} {id : Int} (h : id ∈ T.map (·.1)) : (id, parT T id) ∈ T := by
  unfold parT
  cases hl : lk T id with
  | none => rw [lk_none] at hl; exact absurd h hl
  | some p => exact lk_mem hl
theorem kids_par {T : List (Int × Int)} (h : TWf T) {n : Nat} {id p : Int} (hL : Low T n id) (hp : (id, p) ∈ T) : kids (dropT T (ordF T n id)) p = (kids T p).filter fun x => !(x == id) := by
  have hpn : p ∉ ordF T n id := fun hg => by
    obtain ⟨i, hi⟩ := List.getElem?_of_mem hp
    rcases ordF_pos h n id hi hg with h1 | ⟨j, v, hj, h1⟩
    · exact h.ne _ hp h1
    · have := h.up_lt hi hj; omega
  unfold kids dropT
  rw [List.filter_filter, List.filter_map, List.filter_filter]
  congr 1
  refine List.filter_congr fun q hq => ?_
  by_cases hqp : q.2 = p
  · have e : ordF T n id = ordF T n id := rfl
    by_cases hqi : q.1 = id
    · simp [hqi, ordF_self]
    · have : q.1 ∉ ordF T n id := fun hg => by
        rcases ordF_up n id hg with h1 | ⟨u, hu, h1⟩
        · exact hqi h1
        · have := h.par (x := q.1) (p := u) (q := q.2) h1 hq
          rw [this, hqp] at hu
          exact hpn hu
      simp [hqp, hqi, this]
  · have e2 : (q.2 == p) = false := by simpa using hqp
    simp [e2]
def lessT {α : Type} (N : List (Int × α)) (G : List Int) : List (Int × α) := N.filter fun q => !(G.contains q.1)
theorem lessT_nil {α : Type} (N : List (Int × α)) : lessT N [] = N := by unfold lessT; rw [List.filter_eq_self]; intro q _; rfl
theorem del_filter {α : Type} : ∀ {l : List (Int × α)} {k : Int}, (l.map (·.1)).Nodup → del l k = l.filter fun q => !(q.1 == k)
  | [], _, _ => rfl
  | (a, u) :: l, k, h => by
    rw [List.map_cons, List.nodup_cons] at h
    unfold del
    by_cases e : k = a
    · subst e
      rw [if_pos rfl, List.filter_cons_of_neg (by simp)]
      rw [List.filter_eq_self.2]
      intro q hq
      have : q.1 ≠ k := fun e => h.1 (e ▸ List.mem_map.2 ⟨q, hq, rfl⟩)
      simp [this]
    · rw [if_neg e, List.filter_cons_of_pos (by simp; exact fun h => e h.symm), del_filter h.2]
theorem del_lessT {N : List (Int × Nat)} (hn : (N.map (·.1)).Nodup) {G : List Int} {j : Nat} {g : Int} (hg : G[j]? = some g) : del (ndB (lessT N (G.take j))) g = ndB (lessT N (G.take (j + 1))) := by
  have h1 : ((ndB (lessT N (G.take j))).map (·.1)).Nodup := by
    simp only [ndB, List.map_map]
    exact hn.sublist (List.Sublist.map _ List.filter_sublist)
  rw [del_filter h1]
  unfold ndB lessT
  rw [List.filter_map, List.filter_filter]
  congr 1
  refine List.filter_congr fun q _ => ?_
  rw [List.take_add_one, hg]
  by_cases e : q.1 = g
  · simp [e]
  · simp [e]
theorem lessT_keys {T : List (Int × Int)} {N : List (Int × Nat)} {G : List Int} (hN : N.map (·.1) = 0 :: T.map (·.1)) (h0 : (0 : Int) ∉ G) : (lessT N G).map (·.1) = 0 :: (dropT T G).map (·.1) := by
  have e : ∀ {α : Type} (M : List (Int × α)), (M.filter fun q => !(G.contains q.1)).map (·.1) = (M.map (·.1)).filter fun k => !(G.contains k) := by
    intro α M
    rw [List.filter_map]; rfl
  unfold lessT dropT
  rw [e, hN, List.filter_cons_of_pos (by simp [h0]), e]
theorem Star.filter {α : Type} {f : α → HP} (p : α → Bool) : ∀ (M : List α) (H : PH), Star f M H → Star f (M.filter p) H
  | [], H, _ => trivial
  | q :: M, H, h => by
    obtain ⟨H1, H2, d, u, hx, h2⟩ := h
    by_cases hp : p q = true
    · rw [List.filter_cons_of_pos hp]
      exact ⟨H1, H2, d, u, hx, Star.filter p M H2 h2⟩
    · rw [List.filter_cons_of_neg hp]
      have h3 := Star.filter p M H2 h2
      exact SL.weaken (L := (M.filter p).map f) (fun b o hb => by
        rw [u b, hb]
        rcases d b with h | h
        · rw [h]; rfl
        · rw [hb] at h; cases h) h3
set_option maxHeartbeats 8000000
attribute [local irreducible] X XE XO XD XDi XDa PV RV DV pt base Spec Sl Mp Keeps
attribute [local irreducible] View XI Ylds Star NodeX NodeOf Holds kids Tre
theorem starX_par {T : List (Int × Int)} {M : List NX} {i : Nat} {q : NX} (h : M[i]? = some q) : Holds (Star (NodeX T) M) q.2.1 0 [.int .u64 (parT T q.1)] := by
  unfold Holds
  intro H hs
  obtain ⟨H1, hn, hsub⟩ := star_get h hs
  unfold NodeX at hn
  obtain ⟨H2, hp, hsub2⟩ := SL.le_self hn
  unfold pt at hp
  refine ⟨_, _, _, hsub _ _ (hsub2 _ _ hp), fun j v hj => ?_⟩
  cases j with
  | zero => simpa using hj
  | succ j => simp at hj
theorem nx_ix {M : List NX} {id : Int} (h : id ∈ M.map (·.1)) : ∃ (i : Nat) (q : NX), M[i]? = some q ∧ q.1 = id ∧ lk (ndB (M.map nbX)) id = some (some q.2.1) := by
  obtain ⟨i, nb, hi, hlk⟩ := lk_ix (N := M.map nbX) (id := id) (by rw [List.map_map]; exact h)
  rw [List.getElem?_map] at hi
  cases hm : M[i]? with
  | none => rw [hm] at hi; simp at hi
  | some q =>
    rw [hm] at hi
    simp only [Option.map_some, Option.some.injEq, nbX, Prod.mk.injEq] at hi
    exact ⟨i, q, hm, hi.1, by rw [ndB_lk, hlk, ← hi.2]; rfl⟩
theorem NodeX.open {T : List (Int × Int)} {q : NX} : ∀ H, NodeX T q H → ∃ x : Unit, True ∧ SL [pt q.2.1 (.cells [.int .u64 (parT T q.1), .slice q.2.2.1 (kids T q.1).length q.2.2.2].toArray 233 (0, 0)), Sl (eI .u64) q.2.2.1 q.2.2.2 (kids T q.1)] H := by
  unfold NodeX; exact fun H h => ⟨(), trivial, h⟩
theorem lessT_app {α : Type} (A B : List (Int × α)) (G : List Int) : lessT (A ++ B) G = lessT A G ++ lessT B G := List.filter_append ..
theorem SL_one {A : HP} {H : PH} (h : A H) : SL [A] H := ⟨H, fun _ => none, fun _ => .inr rfl, fun _ => by simp, h, trivial⟩
theorem drop_fold {t mb : Nat} {T : List (Int × Int)} (hw : TWf T) {M : List NX} (hM : M.map (·.1) = 0 :: T.map (·.1)) {i q2 : Nat} {ka : Option Addr} {kc : Nat} {id : Int} (hq : M[i]? = some (parT T id, q2, ka, kc)) (hid : id ∈ T.map (·.1)) :
    ∀ H, SL [pt t (.cells [.map (some mb)].toArray 236 (0, 0)), Mp vU npV mb (ndB (lessT (M.map nbX) (ordT T id))), NodeOf (dropT T (ordT T id)) (parT T id, q2), Star (NodeX T) (M.eraseIdx i)] H → Tre t (dropT T (ordT T id)) H := by
  have hpm := parT_mem hid
  have hL := low_all hw id
  have h0G : (0 : Int) ∉ ordT T id := fun h => by
    obtain ⟨q, hq, e⟩ := List.mem_map.1 (ordF_in hid h)
    exact hw.nz q hq e
  have hpG : parT T id ∉ ordT T id := fun hg => by
    obtain ⟨i, hi⟩ := List.getElem?_of_mem hpm
    rcases ordF_pos hw T.length id hi hg with h1 | ⟨j, v, hj, h1⟩
    · exact hw.ne _ hpm h1
    · have := hw.up_lt hi hj; omega
  have hil := (List.getElem?_eq_some_iff.1 hq).1
  have hsp : M = M.take i ++ (parT T id, q2, ka, kc) :: M.drop (i + 1) := by
    rw [← (List.getElem?_eq_some_iff.1 hq).2, ← List.drop_eq_getElem_cons hil, List.take_append_drop]
  have her : M.eraseIdx i = M.take i ++ M.drop (i + 1) := by rw [List.eraseIdx_eq_take_drop_succ]
  have hnd : (M.map (·.1)).Nodup := by
    rw [hM, List.nodup_cons]
    exact ⟨fun h => by obtain ⟨q, hq, e⟩ := List.mem_map.1 h; exact hw.nz q hq e, hw.nd⟩
  have hls : lessT (M.map nbX) (ordT T id) = lessT ((M.take i).map nbX) (ordT T id) ++ (parT T id, q2) :: lessT ((M.drop (i + 1)).map nbX) (ordT T id) := by
    conv => lhs; rw [hsp]
    rw [List.map_append, lessT_app, List.map_cons]
    congr 1
    unfold lessT
    rw [List.filter_cons_of_pos (by simp [hpG])]
  have hcg : Star (NodeOf T) (lessT ((M.eraseIdx i).map nbX) (ordT T id)) = Star (NodeOf (dropT T (ordT T id))) (lessT ((M.take i).map nbX) (ordT T id) ++ lessT ((M.drop (i + 1)).map nbX) (ordT T id)) := by
    rw [her, List.map_append, lessT_app]
    refine Star.congr fun x hx => ?_
    rw [← lessT_app, ← List.map_append, ← her] at hx
    unfold lessT at hx
    obtain ⟨hx1, hx2⟩ := List.mem_filter.1 hx
    have hxG : x.1 ∉ ordT T id := by simpa using hx2
    have hxp : x.1 ≠ parT T id := fun e => by
      obtain ⟨y, hy, rfl⟩ := List.mem_map.1 hx1
      have hp := (perm_ix hq).map (·.1)
      have := hp.nodup_iff.1 hnd
      simp only [List.map_cons, List.nodup_cons] at this
      exact this.1 (e ▸ List.mem_map.2 ⟨y, hy, rfl⟩)
    exact (NodeOf.same (dropT_kids hw hL hxG (fun p hp e => hxp (by rw [← e]; exact hw.par hp hpm))) (parT_drop hxG)).symm
  intro H h
  refine Tre.fold (mb := mb) (N := lessT (M.map nbX) (ordT T id)) (lessT_keys (by rw [List.map_map]; exact hM) h0G) H ?_
  refine SL.cons (fun H h => SL.cons (fun H h => ?_) h) h
  rw [hls]
  refine SL_one (Star.back H (SL.cons (fun H h => SL.head (fun H h => ?_) h) h))
  rw [← hcg]
  exact Star.filter _ _ _ (x_star _ _ h)
theorem tr_parentX (b mb : Nat) {T : List (Int × Int)} {M : List NX} (hM : M.map (·.1) = 0 :: T.map (·.1)) {id : Int} (hi : id ∈ T.map (·.1)) : Spec Tryz.prog 148 [.pointer (some ⟨b, 0, none⟩), .int .u64 id] (TX b mb T M) (fun v L => v = .int .u64 (parT T id) ∧ L = TX b mb T M) := by
  obtain ⟨i, q, hq, rfl, hlk2⟩ := nx_ix (M := M) (id := id) (by rw [hM]; exact List.mem_cons.2 (.inr hi))
  have hH := starX_par (T := T) hq
  refine Spec.intro (IsEnt.out) Tryz.func148 rfl Tryz.ntmps148 (by simp) (fun w0 F => ?_)
  unfold TX
  simp only [envOf, List.zipIdx, List.map, List.cons_append, List.nil_append, Nat.zero_add, Nat.reduceAdd]
  (repeat refine Z ?_)
  refine XO_call (tr_node b mb (ndB (M.map nbX)) q.1) (hk := ?_)
  rintro _ _ ⟨rfl, rfl⟩
  rw [hlk2]
  (repeat refine Z ?_)
  refine X_cond rfl (fun _ => ?_) (fun h => by cases h)
  (repeat refine Z ?_)
  refine XO_rv (rv_load1 (A := Star (NodeX T) M) rfl (by exact FDs) rfl hH) (hk := ?_)
  (repeat refine Z ?_)
  refine XE_ret (.inl rfl) (tells_tmps rfl rfl) ⟨_, ⟨rfl, rfl⟩, by exact EN⟩
theorem dropE_spec (ib : Nat) (id c : Int) : Spec Tryz.prog 150 [.int .u64 c, .pointer (some ⟨ib, 0, none⟩)] [pt ib (.cells [.int .u64 id].toArray 32 (0, 0))] (fun v L => v = .bool (c == id) ∧ L = [pt ib (.cells [.int .u64 id].toArray 32 (0, 0))]) := by
  refine Spec.intro (IsEnt.out) Tryz.func150 rfl Tryz.ntmps150 (by simp) (fun w0 F => ?_)
  simp only [envOf, List.zipIdx, List.map, List.cons_append, List.nil_append, Nat.zero_add, Nat.reduceAdd]
  (repeat refine Z ?_)
  refine XE_ret (.inl rfl) (tells_tmps rfl rfl) ⟨_, ⟨rfl, rfl⟩, by exact EN⟩
theorem drop_spec (t : Nat) (T : List (Int × Int)) (hw : TWf T) (id : Int) (h0 : id ≠ 0) (hid : id ∈ T.map (·.1)) (hl : T.length ≤ 1000000) : Spec Tryz.prog 100 [.pointer (some ⟨t, 0, none⟩), .int .u64 id] [Tre t T] (fun v L => ∃ a c, v = .slice a (ordT T id).length c ∧ L = [Tre t (dropT T (ordT T id)), Sl (eI .u64) a c (ordT T id)]) := by
  have hGl := ordF_len hw (n := T.length) hid
  have hGs := ordF_self T T.length id
  have hG0 : 0 < (ordT T id).length := List.length_pos_of_mem hGs
  have hpm := parT_mem hid
  have hL := low_all hw id
  refine Spec.intro (IsEnt.out) Tryz.func100 rfl Tryz.ntmps100 (by simp) (fun w0 F => ?_)
  simp only [envOf, List.zipIdx, List.map, List.cons_append, List.nil_append, Nat.zero_add, Nat.reduceAdd]
  refine X_seq ?_
  refine X_region ?_
  refine XO_dv dv_box1 (hk := ?_)
  rintro _ _ ⟨ib, rfl, rfl⟩
  (repeat refine Z ?_)
  refine XO_call (order_spec t T hw id h0 hid hl) (hk := ?_)
  rintro _ _ ⟨a, c, rfl, rfl⟩
  (repeat refine Z ?_)
  refine X_cond rfl (fun h => ?_) (fun _ => ?_)
  · exfalso
    simp only [beq_iff_eq] at h
    omega
  refine X_open (A := Tre t T) (by exact FDs) Tre.openX ?_
  rintro ⟨mb, M⟩ hM
  have hpk : parT T id ∈ M.map (·.1) := by
    rw [hM]
    rcases hw.up _ hpm with h1 | h1
    · exact List.mem_cons.2 (.inl h1)
    · exact List.mem_cons.2 (.inr h1)
  obtain ⟨i, q, hq, hqp, hlk2⟩ := nx_ix hpk
  dsimp only [TX, List.cons_append, List.nil_append] at hM ⊢
  (repeat refine Z ?_)
  (repeat refine ZD ?_)
  refine XD_one (h := ?_)
  refine XDa_dvA (dv_call (tr_parentX t mb hM hid)) (hk := ?_)
  (rintro _ _ ⟨_, ⟨rfl, rfl⟩, rfl⟩; refine ⟨by exact KP, ?_⟩)
  dsimp only [TX, List.cons_append, List.nil_append]
  (repeat refine ZD ?_)
  refine XDi_rv (rv_lookup (ke := vU) (ve := npV) (kk := parT T id) (d0 := none)) (h := ?_)
  rw [hlk2]
  (refine XD_one (h := ?_); refine XDa_dvA (dv_of_rv (rv_of_pv pv_assign)) (hk := ?_); rintro _ _ ⟨rfl, rfl⟩; refine ⟨by exact KP, ?_⟩)
  (refine XD_end (h := ?_); (repeat refine Z ?_))
  obtain ⟨q1, q2, ka, kc⟩ := q
  simp only at hqp
  subst hqp
  refine XO_open (A := Star (NodeX T) M) (by exact FDs) (Star.outI (f := NodeX T) hq) ?_
  rintro ⟨⟩ -
  refine XO_open (A := NodeX T (parT T id, q2, ka, kc)) (by exact FDs) NodeX.open ?_
  rintro ⟨⟩ -
  dsimp only [List.cons_append, List.nil_append]
  have hkl := kids_len T (parT T id)
  (repeat refine Z ?_)
  refine XO_call (delU_spec (pt ib (.cells [.int .u64 id].toArray 32 (0, 0))) ka kc (kids T (parT T id)) _ (.pointer (some ⟨ib, 0, none⟩)) (fun x => x == id) (by omega) (fun r _ => dropE_spec ib id r)) (hk := ?_)
  rintro _ _ ⟨rfl, rfl⟩
  (repeat refine Z ?_)
  refine XO_dv0 dv_store (hk := ?_)
  rintro _ _ rfl
  rw [← kids_par hw hL hpm]
  refine XO_fold (by exact FAs) (NodeOf.fold (T := dropT T (ordT T id)) (q := (parT T id, q2)) (a := ka) (n := (kids (dropT T (ordF T T.length id)) (parT T id)).length) (c := kc) (p := parT T (parT T id)) rfl (parT_drop (fun hg => ?_)).symm) ?_
  · obtain ⟨i, hi⟩ := List.getElem?_of_mem hpm
    rcases ordF_pos hw T.length id hi hg with h1 | ⟨j, v, hj, h1⟩
    · exact hw.ne _ hpm h1
    · have := hw.up_lt hi hj; omega
  (repeat refine Z ?_)
  have hol : (ordT T id).length ≤ 1000000 := Nat.le_trans hGl hl
  have hnd : ((M.map nbX).map (·.1)).Nodup := by
    rw [List.map_map]
    have : M.map ((fun x => x.1) ∘ nbX) = M.map (·.1) := rfl
    rw [this, hM, List.nodup_cons]
    exact ⟨fun h => by obtain ⟨q, hq, e⟩ := List.mem_map.1 h; exact hw.nz q hq e, hw.nd⟩
  refine X_loop (ι := Nat) (fun j => j ≤ (ordT T id).length) (fun j => [(0, .pointer (some ⟨t, 0, none⟩)), (5, .slice a (ordT T id).length c), (32, .slice a (ordT T id).length c), (33, .int .i64 ((ordT T id).length : Int)), (34, .int .i64 (j : Int))]) (fun j => NodeOf (dropT T (ordT T id)) (parT T id, q2) :: Star (NodeX T) (M.eraseIdx i) :: pt t (.cells [.map (some mb)].toArray 236 (0, 0)) :: Mp vU npV mb (ndB (lessT (M.map nbX) ((ordT T id).take j))) :: Sl (eI .u64) a c (ordT T id) :: F) (fun j => (ordT T id).length - j) 0 (Nat.zero_le _) ?_ (by rw [List.take_zero, lessT_nil]; exact EN) ?_
  · exact SBs
  intro j hj
  dsimp only at hj ⊢
  (repeat refine Z ?_)
  refine X_cond rfl (fun hc => ?_) (fun hc => ?_) <;> simp only [decide_eq_true_eq, decide_eq_false_iff_not] at hc
  · have hjl : j < (ordT T id).length := by omega
    obtain ⟨x, hx⟩ : ∃ x, (ordT T id)[j]? = some x := ⟨(ordT T id)[j], by simp [hjl]⟩
    have hget : (ordT T id)[(j : Int).toNat]? = some x := by rw [Int.toNat_natCast]; exact hx
    refine X_slopen (E' := eI .u64) (a := a) (c := c) (xs := ordT T id) (by exact FDs) hG0 ?_
    rintro b o rfl
    (repeat refine Z ?_)
    refine XO_dv0 (dv_delete (ke := vU) (ve := npV) (l := ndB (lessT (M.map nbX) ((ordT T id).take j))) (kk := x)) (hk := ?_)
    rintro _ _ rfl
    rw [del_lessT hnd hx]
    (repeat refine Z ?_)
    refine X_round (j + 1) (by omega) (by show (ordT T id).length - (j + 1) < (ordT T id).length - j; omega) (by exact SBs) (by exact EN)
  · obtain rfl : j = (ordT T id).length := by omega
    rw [List.take_of_length_le (Nat.le_refl _)]
    (repeat refine Z ?_)
    refine XE_fold (S := [pt t (.cells [.map (some mb)].toArray 236 (0, 0)), Mp vU npV mb (ndB (lessT (M.map nbX) (ordT T id))), NodeOf (dropT T (ordT T id)) (parT T id, q2), Star (NodeX T) (M.eraseIdx i)]) (by exact FAs) (drop_fold hw hM hq hid) ?_
    refine XE_ret (.inl rfl) (tells_tmps rfl rfl) ⟨_, ⟨a, c, rfl, rfl⟩, by exact EN⟩
end Go.Proofs.YtamecmklcnohjaaGreat.Sep
