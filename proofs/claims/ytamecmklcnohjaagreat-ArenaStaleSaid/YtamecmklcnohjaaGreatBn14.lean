import Derived.Test.YtamecmklcnohjaaGreatBn12
import Derived.Test.YtamecmklcnohjaaGreatBn13
import Derived.Test.YtamecmklcnohjaaGreatBn2
/- What the laws share: a separation logic over the model, and what the program's functions do, by it. Part 14 of 15: Old ArC ArF Inv InvB ArG Act18 ArN. -/
namespace Go.Proofs.YtamecmklcnohjaaGreat.Sep
open Go.RowKit
set_option linter.unusedSimpArgs false
set_option linter.unusedVariables false
section
variable {α : Type}
def Tb.Old (t : Tb α) (h : Int) : Prop := (hSlot h).toNat < t.slots.length ∧ (hGen h < t.genAt (hSlot h).toNat ∨ (hGen h = t.genAt (hSlot h).toNat ∧ t.usedAt (hSlot h).toNat = true))
theorem Tb.Old.add {N : Nat} {t : Tb α} (ht : TbOk N t) (v : α) {h : Int} (ho : t.Old h) : (t.add v).Old h := by
  have hl : t.slots.length ≤ (t.add v).slots.length := by
    unfold Tb.add
    cases hl : t.free.getLast? with
    | none => simp
    | some i => simp
  obtain ⟨h1, h2⟩ := ho
  refine ⟨Nat.lt_of_lt_of_le h1 hl, ?_⟩
  rw [Tb.add_gen ht v, Tb.add_used ht v]
  rcases h2 with h2 | ⟨h2, h3⟩
  · exact .inl h2
  · refine .inr ⟨h2, ?_⟩
    split
    · rfl
    · exact h3
theorem Tb.Old.put {t : Tb α} (y : Int) (v : α) {h : Int} (ho : t.Old h) : (t.put y v).Old h := by
  have hp := Tb.put_parts (t := t) (y := y) (v := v) (hSlot h).toNat
  unfold Tb.Old
  rw [hp.1, hp.2.1, hp.2.2.2.1]
  exact ho
theorem Tb.Old.drop {N : Nat} {t : Tb α} (ht : TbOk N t) (d : α) (y : Int) {h : Int} (ho : t.Old h) : (t.drop d y).Old h := by
  cases hs : t.spot y with
  | none =>
    have e : t.drop d y = t := by unfold Tb.drop; rw [hs]
    rw [e]; exact ho
  | some i =>
    have hp := Tb.drop_parts (d := d) hs (hSlot h).toNat
    obtain ⟨h1, h2⟩ := ho
    refine ⟨by rw [hp.2.2.2.1]; exact h1, ?_⟩
    rw [hp.1, hp.2.1]
    by_cases e : (hSlot h).toNat = i
    · rw [if_pos e, if_pos e]
      have hg := ht.gen i
      have hN := ht.hN
      left
      have : nextI (t.genAt i) = t.genAt i + 1 := by unfold nextI; rw [if_pos ⟨hg.1, by omega⟩]
      rw [this]
      rw [e] at h2
      omega
    · rw [if_neg e, if_neg e]; exact h2
theorem Tb.Old.addH {N : Nat} {t : Tb α} (ht : TbOk N t) (v : α) : (t.add v).Old t.addH := by
  have hp := Tb.addH_parts ht
  have hu : (t.add v).usedAt t.nx = true := by rw [Tb.add_used ht v, if_pos rfl]
  refine ⟨by rw [hp.2.1]; exact Tb.usedAt_lt hu, .inr ⟨?_, by rw [hp.2.1]; exact hu⟩⟩
  rw [hp.2.1, Tb.add_gen ht v, hp.2.2]
theorem Tb.Old.ne {N : Nat} {t : Tb α} (ht : TbOk N t) {h : Int} (ho : t.Old h) : h ≠ t.addH := by
  rintro rfl
  have hp := Tb.addH_parts ht
  obtain ⟨_, h2⟩ := ho
  rw [hp.2.1, hp.2.2] at h2
  rcases h2 with h2 | ⟨_, h2⟩
  · omega
  · rw [Tb.nx_unused ht] at h2; cases h2
theorem Tb.to_mem {t : Tb α} {i : Nat} (hu : t.usedAt i = true) : ∀ {k : Nat}, i < k → t.hAt i ∈ t.handlesTo k
  | 0, h => by omega
  | k + 1, h => by
    unfold Tb.handlesTo
    rcases Nat.lt_or_ge i k with h1 | h1
    · exact List.mem_append.2 (.inl (Tb.to_mem hu h1))
    · obtain rfl : i = k := by omega
      rw [if_pos hu]; simp
theorem Tb.handles_iff {N : Nat} {t : Tb α} (ht : TbOk N t) {x : Int} : x ∈ t.handles ↔ (t.get x).isSome = true := by
  constructor
  · intro h
    obtain ⟨i, hi, _⟩ := Tb.handles_mem ht h
    obtain ⟨v, hv, _⟩ := Tb.spot_get hi
    rw [hv]; rfl
  · intro h
    obtain ⟨v, hv⟩ := Option.isSome_iff_exists.1 h
    obtain ⟨i, hi, _⟩ := Tb.get_some hv
    have hi2 := hi
    obtain ⟨hk0, hu, hkk, hg, hsl, hl⟩ := Tb.spot_some hi
    have hx : t.hAt i = x := by
      rcases Tb.get_hok ht hi2 with h1 | h1 | h1
      · exact h1
      · exfalso
        have hkd := ht.kd
        unfold hKind at hkk hk0
        omega
      · exfalso
        have hkd := ht.kd
        unfold hKind at hkk hk0
        omega
    rw [← hx]
    exact Tb.to_mem hu hl
end
end Go.Proofs.YtamecmklcnohjaaGreat.Sep
namespace Go.Proofs.YtamecmklcnohjaaGreat.Sep
open Go.RowKit
set_option linter.unusedSimpArgs false
set_option linter.unusedVariables false
def Ar.endAt (z : Ar) (i : Nat) (g : Int) (S : Sh) : Ar := ⟨putsC z.C S 0 0, rewM z.P z.m S 0 0 0, z.P, z.reg.drop none g, z.M.eraseIdx i, (z.give0 g 0).obj, (z.give0 g 0).mar, z.tr, cutW z.rs g 0⟩
def Ar.endR (z : Ar) (g : Int) : Ar := match z.M.findIdx? (fun q => q.2.1 == g) with
  | none => z
  | some i => match z.M[i]? with
    | none => z
    | some q => z.endAt i g q.2.2
def Ar.freeR (z : Ar) (h : Int) : Ar := (ordT z.tr h).foldl Ar.endR { z with tr := dropT z.tr (ordT z.tr h) }
theorem M_ix {M : List RgT} (hn : (M.map (·.2.1)).Nodup) {i j : Nat} {q r : RgT} (hi : M[i]? = some q) (hj : M[j]? = some r) (h : q.2.1 = r.2.1) : i = j := by
  have e1 : (M.map (·.2.1))[i]? = (M.map (·.2.1))[j]? := by rw [List.getElem?_map, List.getElem?_map, hi, hj]; simp [h]
  have hil : i < (M.map (·.2.1)).length := by rw [List.length_map]; exact (List.getElem?_eq_some_iff.1 hi).1
  exact (List.getElem?_inj hil hn).1 e1
theorem Ar.endR_eq {z : Ar} (hn : (z.M.map (·.2.1)).Nodup) {i b : Nat} {g : Int} {S : Sh} (hq : z.M[i]? = some (b, g, S)) : z.endR g = z.endAt i g S := by
  have hf : z.M.findIdx? (fun q => q.2.1 == g) = some i := by
    have hil := (List.getElem?_eq_some_iff.1 hq).1
    have hiv := (List.getElem?_eq_some_iff.1 hq).2
    rw [List.findIdx?_eq_some_iff_getElem]
    refine ⟨hil, by rw [hiv]; simp, fun j hj => ?_⟩
    have hjl : j < z.M.length := by omega
    have hne : z.M[j].2.1 ≠ g := fun e => by
      have := M_ix hn (List.getElem?_eq_getElem hjl) hq e
      omega
    simpa using hne
  unfold Ar.endR
  rw [hf]
  simp only
  rw [hq]
theorem fits0 (S : Sh) : fitsS S 0 0 0 = true := by
  unfold fitsS
  rw [if_neg (by omega), if_pos rfl]
  rfl
theorem gotR_zero (g : Int) (S : Sh) : gotR g (setTop (cutS S 0 0) 0 0 0) = [] := by
  rw [gotR_setTop]
  unfold gotR cutS
  simp [plH]
theorem erase_mem {M : List RgT} (hn : (M.map (·.2.1)).Nodup) {i : Nat} {q : RgT} (hq : M[i]? = some q) {r : RgT} : r ∈ M.eraseIdx i ↔ r ∈ M ∧ r.2.1 ≠ q.2.1 := by
  have hp := perm_ix hq
  have hn2 := (hp.map (·.2.1)).nodup_iff.1 hn
  rw [List.map_cons, List.nodup_cons] at hn2
  constructor
  · intro h
    exact ⟨List.mem_of_mem_eraseIdx h, fun e => hn2.1 (e ▸ List.mem_map.2 ⟨r, h, rfl⟩)⟩
  · rintro ⟨h, hne⟩
    rcases List.mem_cons.1 (hp.mem_iff.1 h) with h1 | h1
    · exact absurd (by rw [h1]) hne
    · exact h1
theorem AOw.giveN {N : Nat} {z : Ar} (h : AOw N z) (g : Int) (hN : N + (ofL z.rs g).length ≤ 100000) : AOw (N + (ofL z.rs g).length) (z.give0 g 0) := by
  have hbl : ∀ y ∈ ((ofL z.rs g).drop 0).reverse, 0 ≤ y ∧ y ≤ 18446744073709551615 := fun y hy => h.rb _ (ofL_val _ _ _ (List.mem_of_mem_drop (List.mem_reverse.1 hy)))
  have e : ((ofL z.rs g).drop 0).reverse.length = (ofL z.rs g).length := by simp
  have := AOw.fold hbl (h.cut g 0) (by rw [e]; exact hN)
  rw [e] at this
  exact this
theorem give0_reg (z : Ar) (g : Int) : (z.give0 g 0).reg = z.reg ∧ (z.give0 g 0).M = z.M ∧ (z.give0 g 0).C = z.C ∧ (z.give0 g 0).m = z.m ∧ (z.give0 g 0).P = z.P ∧ (z.give0 g 0).tr = z.tr ∧ (z.give0 g 0).rs = cutW z.rs g 0 := fold_reg ((ofL z.rs g).drop 0).reverse { z with rs := cutW z.rs g 0 }
theorem flat_wf {T : List (Int × Int)} (h : TWf T) (g : Int) : TWf ((T.filter fun q => !(q.1 == g)).map fun q => (q.1, (0 : Int))) := by
  have hm : ∀ q ∈ (T.filter fun q => !(q.1 == g)).map (fun q => (q.1, (0 : Int))), q.2 = 0 ∧ q.1 ≠ 0 := by
    intro q hq
    obtain ⟨r, hr, rfl⟩ := List.mem_map.1 hq
    exact ⟨rfl, h.nz r (List.mem_filter.1 hr).1⟩
  refine ⟨?_, fun q hq => (hm q hq).2, fun q hq => .inl (hm q hq).1, fun q hq => by rw [(hm q hq).1]; exact fun e => (hm q hq).2 e.symm, ?_⟩
  · rw [List.map_map]
    exact h.nd.sublist (List.Sublist.map _ List.filter_sublist)
  · rw [List.pairwise_iff_forall_sublist]
    intro a b hs
    have ha := hm a (hs.subset (by simp))
    have hb := hm b (hs.subset (by simp))
    rw [ha.1]; exact fun e => hb.2 e.symm
theorem flat_keys {T : List (Int × Int)} {g x : Int} : x ∈ ((T.filter fun q => !(q.1 == g)).map fun q => (q.1, (0 : Int))).map (·.1) ↔ x ∈ T.map (·.1) ∧ x ≠ g := by
  rw [List.map_map]
  constructor
  · intro h
    obtain ⟨q, hq, rfl⟩ := List.mem_map.1 h
    have := List.mem_filter.1 hq
    exact ⟨List.mem_map.2 ⟨q, this.1, rfl⟩, by simpa using this.2⟩
  · rintro ⟨h, hne⟩
    obtain ⟨q, hq, rfl⟩ := List.mem_map.1 h
    exact List.mem_map.2 ⟨q, List.mem_filter.2 ⟨hq, by simpa using hne⟩, rfl⟩
theorem drop_kind {α : Type} (d : α) (t : Tb α) (x : Int) : (t.drop d x).kind = t.kind := by
  cases hs : t.spot x with
  | none => unfold Tb.drop; rw [hs]
  | some i => exact (Tb.drop_parts (d := d) hs 0).2.2.1
theorem AOw.endAt {N : Nat} {z : Ar} (h : AOw N z) {i b : Nat} {g : Int} {S : Sh} (hq : z.M[i]? = some (b, g, S)) (hN : N + (ofL z.rs g).length + 1 ≤ 100000) : AOw (N + (ofL z.rs g).length + 1) (z.endAt i g S) := by
  have hg := h.giveN g (by omega)
  obtain ⟨f1, f2, f3, f4, f5, f6, f7⟩ := give0_reg z g
  have hqm := List.mem_of_getElem? hq
  have hgb := h.hb _ hqm
  dsimp only at hgb
  have hR := h.R.one hq
  dsimp only at hR
  have hr := rew_inv (ob := 0) (pd := 0) hR (fits0 S) (Int.le_refl _) (by decide) (by decide)
  have hK := hr.K
  rw [gotR_zero, List.nil_append] at hK
  have hM : ∀ {r : RgT}, r ∈ z.M.eraseIdx i ↔ r ∈ z.M ∧ r.2.1 ≠ g := fun {r} => erase_mem h.nd hq
  have hdr := h.rg.drop (by omega) none g
  have hgd : ∀ x, 0 ≤ x → x ≤ 18446744073709551615 → (z.reg.drop none g).get x = if x = g then none else z.reg.get x := fun x x0 x1 => Tb.get_drop h.rg none x0 x1 hgb.1 hgb.2
  obtain ⟨T, hk⟩ := hg
  generalize hL : (ofL z.rs g).length = L at hk hN ⊢
  have hlive := h.live
  have hown := h.own
  refine ⟨(T.filter fun q => !(q.1 == g)).map fun q => (q.1, (0 : Int)), hN, ⟨hK, hr.hP, fun q hq => (h.R.S q (hM.1 hq).1).le (by omega), fun q hq => h.R.po q (hM.1 hq).1⟩, hdr.le (by omega) (by omega), hk.ob.le (by omega) (by omega), hk.mr.le (by omega) (by omega), ?_, hk.k2, hk.k3, flat_wf hk.T g, ?_, ?_, ?_, ?_, fun q hq => h.hb q (hM.1 hq).1, ?_, ?_, ?_, ?_⟩
  · have := hk.k1
    dsimp only at this
    rw [f1] at this
    exact (drop_kind none z.reg g).trans this
  · rw [List.length_map]
    have h1 := List.length_filter_le (fun q : Int × Int => !(q.1 == g)) T
    have h2 := hk.tl
    dsimp only at h2
    omega
  · have := hk.rl
    dsimp only at this
    rw [f7] at this
    exact Nat.le_succ_of_le this
  · intro x v hx
    have hx' : (z.reg.drop none g).get x = some v := hx
    obtain ⟨x0, x1⟩ := Tb.get_bd hdr hx'
    rw [hgd x x0 x1] at hx'
    by_cases he : x = g
    · rw [if_pos he] at hx'; cases hx'
    · rw [if_neg he] at hx'
      obtain ⟨j, b', S', hv, hj⟩ := hlive x v hx'
      obtain ⟨j', hj'⟩ := List.getElem?_of_mem (hM.2 ⟨List.mem_of_getElem? hj, he⟩)
      exact ⟨j', b', S', hv, hj'⟩
  · intro q hq
    have hq2 := hM.1 hq
    have hb := h.hb q hq2.1
    show (z.reg.drop none g).get q.2.1 = _
    rw [hgd _ hb.1 hb.2, if_neg hq2.2]
    exact hown q hq2.1
  · exact h.nd.sublist (List.Sublist.map _ (List.eraseIdx_sublist _ _))
  · intro x
    show x ∈ _ ↔ ((z.reg.drop none g).get x).isSome = true
    rw [flat_keys]
    have htk := hk.tk x
    dsimp only at htk
    rw [f1] at htk
    constructor
    · rintro ⟨h1, h2⟩
      have h3 := htk.1 h1
      obtain ⟨v, hv⟩ := Option.isSome_iff_exists.1 h3
      obtain ⟨x0, x1⟩ := Tb.get_bd h.rg hv
      rw [hgd x x0 x1, if_neg h2]; exact h3
    · intro h1
      obtain ⟨v, hv⟩ := Option.isSome_iff_exists.1 h1
      obtain ⟨x0, x1⟩ := Tb.get_bd hdr hv
      rw [hgd x x0 x1] at h1
      by_cases he : x = g
      · rw [if_pos he] at h1; cases h1
      · rw [if_neg he] at h1; exact ⟨htk.2 h1, he⟩
  · intro x o hx
    have := hk.pl x o hx
    dsimp only at this
    rw [f5] at this
    exact this
  · intro q hq
    have := hk.rb q
    dsimp only at this
    rw [f7] at this
    exact this hq
theorem AOw.k {N : Nat} {z : Ar} (h : AOw N z) (hT : TWf z.tr) (ht : z.tr.length ≤ N) (hk : ∀ x, x ∈ z.tr.map (·.1) ↔ (z.reg.get x).isSome) : AOk N z := by
  obtain ⟨T, h⟩ := h
  exact ⟨h.hN, h.R, h.rg, h.ob, h.mr, h.k1, h.k2, h.k3, hT, ht, h.rl, h.live, h.own, h.hb, h.nd, hk, h.pl, h.rb⟩
theorem giveH_old {N : Nat} {z : Ar} (h : AOw N z) (x : Int) : (∀ y, z.obj.Old y → (z.giveH x).obj.Old y) ∧ (∀ y, z.mar.Old y → (z.giveH x).mar.Old y) := by
  unfold Ar.giveH
  split
  · exact ⟨fun _ h => h, fun _ h => h⟩
  · split
    · exact ⟨fun y hy => hy.drop h.ob _ x, fun _ h => h⟩
    · exact ⟨fun _ h => h, fun y hy => hy.drop h.mr _ x⟩
theorem fold_old {l : List Int} (hb : ∀ x ∈ l, 0 ≤ x ∧ x ≤ 18446744073709551615) : ∀ {N : Nat} {z : Ar}, AOw N z → N + l.length ≤ 100000 → (∀ y, z.obj.Old y → (l.foldl Ar.giveH z).obj.Old y) ∧ (∀ y, z.mar.Old y → (l.foldl Ar.giveH z).mar.Old y) := by
  induction l with
  | nil => intro N z _ _; exact ⟨fun _ h => h, fun _ h => h⟩
  | cons x l ih =>
    intro N z h hN
    simp only [List.length_cons] at hN
    have hx := hb x (by simp)
    have h1 := ih (fun y hy => hb y (by simp [hy])) (h.giveH (by omega) hx.1 hx.2) (by omega)
    have h2 := giveH_old h x
    exact ⟨fun y hy => h1.1 y (h2.1 y hy), fun y hy => h1.2 y (h2.2 y hy)⟩
structure FrI (N : Nat) (z0 : Ar) (pre : List Int) (z : Ar) : Prop where
  eq : z = pre.foldl Ar.endR z0
  w : ∃ n, N ≤ n ∧ AOw n z ∧ n + z.rs.length ≤ N + z0.rs.length + pre.length
  reg : ∀ h, 0 ≤ h → h ≤ 18446744073709551615 → z.reg.get h = if h ∈ pre then none else z0.reg.get h
  of_ : ∀ o, o ∉ pre → ofL z.rs o = ofL z0.rs o
  sub : ∀ q ∈ z.rs, q ∈ z0.rs
  M : ∀ q, q ∈ z.M ↔ q ∈ z0.M ∧ q.2.1 ∉ pre
  P : z.P = z0.P
  tr : z.tr = z0.tr
  old : ∀ h, z0.reg.Old h → z.reg.Old h
  olo : ∀ h, z0.obj.Old h → z.obj.Old h
  olm : ∀ h, z0.mar.Old h → z.mar.Old h
  ob : ∀ y, 0 ≤ y → y ≤ 18446744073709551615 → z.obj.get y = if (∃ g ∈ pre, y ∈ ofL z0.rs g) ∧ hKind y = 2 then none else z0.obj.get y
  ma : ∀ y, 0 ≤ y → y ≤ 18446744073709551615 → z.mar.get y = if (∃ g ∈ pre, y ∈ ofL z0.rs g) ∧ hKind y ≠ 1 ∧ hKind y ≠ 2 then none else z0.mar.get y
theorem FrI.nil {N : Nat} {z0 : Ar} (h : AOw N z0) : FrI N z0 [] z0 :=
  ⟨rfl, ⟨N, Nat.le_refl _, h, by simp⟩, fun h _ _ => by simp, fun _ _ => rfl, fun _ h => h, fun q => by simp, rfl, rfl, fun _ h => h, fun _ h => h, fun _ h => h, fun y _ _ => by simp, fun y _ _ => by simp⟩
theorem FrI.step {N : Nat} {z0 : Ar} {pre : List Int} {z : Ar} (h : FrI N z0 pre z) {n : Nat} (hNn : N ≤ n) (hw : AOw n z) (hn : n + z.rs.length ≤ N + z0.rs.length + pre.length) (hN : N + z0.rs.length + pre.length + 1 ≤ 100000) {i b : Nat} {g : Int} {S : Sh} (hg : g ∉ pre) (hq : z.M[i]? = some (b, g, S)) : FrI N z0 (pre ++ [g]) (z.endR g) := by
  have he := Ar.endR_eq hw.nd hq
  have hlc := length_cutW z.rs g 0
  have hgb := hw.hb _ (List.mem_of_getElem? hq)
  dsimp only at hgb
  have hbl : ∀ y ∈ ((ofL z.rs g).drop 0).reverse, 0 ≤ y ∧ y ≤ 18446744073709551615 := fun y hy => hw.rb _ (ofL_val _ _ _ (List.mem_of_mem_drop (List.mem_reverse.1 hy)))
  have hM : ∀ {r : RgT}, r ∈ z.M.eraseIdx i ↔ r ∈ z.M ∧ r.2.1 ≠ g := fun {r} => erase_mem hw.nd hq
  have hoz := h.of_ g hg
  refine ⟨?_, ⟨n + (ofL z.rs g).length + 1, by omega, ?_, ?_⟩, ?_, ?_, ?_, ?_, ?_, ?_, fun x hx => ?_, fun x hx => ?_, fun x hx => ?_, ?_, ?_⟩
  · rw [List.foldl_append, ← h.eq]; rfl
  · rw [he]; exact hw.endAt hq (by omega)
  · rw [he, List.length_append]
    show _ + (cutW z.rs g 0).length ≤ _
    simp only [List.length_cons, List.length_nil]
    omega
  · intro x x0 x1
    rw [he]
    show (z.reg.drop none g).get x = _
    rw [Tb.get_drop hw.rg none x0 x1 hgb.1 hgb.2, h.reg x x0 x1]
    by_cases h1 : x = g
    · rw [if_pos h1, if_pos (by simp [h1])]
    · rw [if_neg h1]
      by_cases h2 : x ∈ pre
      · rw [if_pos h2, if_pos (by simp [h2])]
      · rw [if_neg h2, if_neg (by simp [h1, h2])]
  · intro o ho
    rw [he]
    show ofL (cutW z.rs g 0) o = _
    have h1 : o ≠ g := fun e => ho (by simp [e])
    rw [ofL_cutW_ne _ _ _ _ h1]
    exact h.of_ o (fun e => ho (by simp [e]))
  · intro q hq
    rw [he] at hq
    exact h.sub q (cutW_sub _ _ _ q hq)
  · intro q
    rw [he]
    show q ∈ z.M.eraseIdx i ↔ _
    rw [hM, h.M q]
    simp only [List.mem_append, List.mem_singleton, not_or]
    exact ⟨fun ⟨⟨a, b⟩, c⟩ => ⟨a, b, c⟩, fun ⟨a, b, c⟩ => ⟨⟨a, b⟩, c⟩⟩
  · rw [he]; exact h.P
  · rw [he]; exact h.tr
  · rw [he]; exact (h.old x hx).drop hw.rg none g
  · rw [he]; exact (fold_old hbl (hw.cut g 0) (by simp; omega)).1 x (h.olo x hx)
  · rw [he]; exact (fold_old hbl (hw.cut g 0) (by simp; omega)).2 x (h.olm x hx)
  · intro y y0 y1
    rw [he]
    show (z.give0 g 0).obj.get y = _
    have hfo := fold_obj hbl (hw.cut g 0) (by simp; omega) y0 y1
    rw [show (z.give0 g 0) = ((ofL z.rs g).drop 0).reverse.foldl Ar.giveH { z with rs := cutW z.rs g 0 } from rfl, hfo]
    show (if y ∈ ((ofL z.rs g).drop 0).reverse ∧ hKind y = 2 then none else z.obj.get y) = _
    have hmem : y ∈ ((ofL z.rs g).drop 0).reverse ↔ y ∈ ofL z0.rs g := by rw [List.drop_zero, List.mem_reverse, hoz]
    rw [h.ob y y0 y1]
    by_cases hk : hKind y = 2
    · by_cases h1 : y ∈ ofL z0.rs g
      · rw [if_pos ⟨hmem.2 h1, hk⟩, if_pos ⟨⟨g, by simp, h1⟩, hk⟩]
      · rw [if_neg (fun e => h1 (hmem.1 e.1))]
        by_cases h2 : ∃ g ∈ pre, y ∈ ofL z0.rs g
        · obtain ⟨u, hu, hy⟩ := h2
          rw [if_pos ⟨⟨u, hu, hy⟩, hk⟩, if_pos ⟨⟨u, by simp [hu], hy⟩, hk⟩]
        · rw [if_neg (fun e => h2 e.1), if_neg (fun e => ?_)]
          obtain ⟨⟨u, hu, hy⟩, _⟩ := e
          rcases List.mem_append.1 hu with h3 | h3
          · exact h2 ⟨u, h3, hy⟩
          · rw [List.mem_singleton.1 h3] at hy; exact h1 hy
    · rw [if_neg (fun e => hk e.2), if_neg (fun e => hk e.2), if_neg (fun e => hk e.2)]
  · intro y y0 y1
    rw [he]
    show (z.give0 g 0).mar.get y = _
    have hfo := fold_mar hbl (hw.cut g 0) (by simp; omega) y0 y1
    rw [show (z.give0 g 0) = ((ofL z.rs g).drop 0).reverse.foldl Ar.giveH { z with rs := cutW z.rs g 0 } from rfl, hfo]
    show (if y ∈ ((ofL z.rs g).drop 0).reverse ∧ hKind y ≠ 1 ∧ hKind y ≠ 2 then none else z.mar.get y) = _
    have hmem : y ∈ ((ofL z.rs g).drop 0).reverse ↔ y ∈ ofL z0.rs g := by rw [List.drop_zero, List.mem_reverse, hoz]
    rw [h.ma y y0 y1]
    by_cases hk : hKind y ≠ 1 ∧ hKind y ≠ 2
    · by_cases h1 : y ∈ ofL z0.rs g
      · rw [if_pos ⟨hmem.2 h1, hk⟩, if_pos ⟨⟨g, by simp, h1⟩, hk⟩]
      · rw [if_neg (fun e => h1 (hmem.1 e.1))]
        by_cases h2 : ∃ g ∈ pre, y ∈ ofL z0.rs g
        · obtain ⟨u, hu, hy⟩ := h2
          rw [if_pos ⟨⟨u, hu, hy⟩, hk⟩, if_pos ⟨⟨u, by simp [hu], hy⟩, hk⟩]
        · rw [if_neg (fun e => h2 e.1), if_neg (fun e => ?_)]
          obtain ⟨⟨u, hu, hy⟩, _⟩ := e
          rcases List.mem_append.1 hu with h3 | h3
          · exact h2 ⟨u, h3, hy⟩
          · rw [List.mem_singleton.1 h3] at hy; exact h1 hy
    · rw [if_neg (fun e => hk e.2), if_neg (fun e => hk e.2), if_neg (fun e => hk e.2)]
end Go.Proofs.YtamecmklcnohjaaGreat.Sep
namespace Go.Proofs.YtamecmklcnohjaaGreat.Sep
open Go.RowKit
set_option linter.unusedSimpArgs false
set_option linter.unusedVariables false
set_option maxHeartbeats 8000000
attribute [local irreducible] X XE XO XD XDi XDa PV RV DV pt base Spec Sl Mp Keeps Pg Kc
attribute [local irreducible] Pgs Spc Ck XL XLi Pl Rs Rg View Tbl Tre Ros Star RgOf Arn
theorem ar_end (x : ABl) (z : Ar) {N : Nat} (hA : AOw N z) (hN : N + N ≤ 100000) {i b : Nat} {g : Int} {S : Sh} (hq : z.M[i]? = some (b, g, S)) (hr : ∀ h ∈ ofL z.rs g, hKind h = 1 → z.reg.get h = none) (cb : Nat) :
    Spec Tryz.prog 96 [.int .u64 g, .pointer (some ⟨cb, 0, none⟩)] [pt cb (.cells [.pointer (some ⟨x.a, 0, none⟩)].toArray 57 (0, 0)), Arn x z]
      (fun v L => v = .tuple #[] ∧ L = [pt cb (.cells [.pointer (some ⟨x.a, 0, none⟩)].toArray 57 (0, 0)), Arn x (z.endR g)]) := by
  have hqm := List.mem_of_getElem? hq
  have hgb := hA.hb _ hqm
  have hgo := hA.own _ hqm
  have hR := hA.R.one hq
  have hrl := hA.rl
  have hol := length_ofL_le z.rs g
  dsimp only at hgb hgo hR
  have he := Ar.endR_eq hA.nd hq
  have hg := hA.giveN g (by omega)
  have hgg := ar_give0 x z hA hN g 0 (fun h hh => hr h (List.mem_of_mem_drop hh))
  rw [show ((0 : Nat) : Int) = 0 from rfl] at hgg
  obtain ⟨f1, f2, f3, f4, f5, f6, f7⟩ := give0_reg z g
  refine Spec.intro (IsEnt.out) Tryz.func96 rfl Tryz.ntmps96 (by simp) (fun w0 F => ?_)
  simp only [envOf, List.zipIdx, List.map, List.cons_append, List.nil_append, Nat.zero_add, Nat.reduceAdd]
  (repeat refine Z ?_)
  refine XO_call (ar_region x z hA g hgb.1 hgb.2) (hk := ?_)
  rintro _ _ ⟨rfl, rfl⟩
  rw [hgo]
  (repeat refine Z ?_)
  refine XO_call hgg (hk := ?_)
  rintro _ _ ⟨rfl, rfl⟩
  unfold Ar.endAt at he
  generalize z.give0 g 0 = zg at hg f1 f2 f3 f4 f5 f6 f7 he ⊢
  refine XO_open (A := Arn x zg) (by exact FDs) Arn.open ?_
  rintro ⟨⟩ -
  dsimp only [List.cons_append, List.nil_append]
  rw [f2, f3, f4, f5]
  refine XO_open (A := Star (RgOf x.s) z.M) (by exact FDs) (Rgs.out hq) ?_
  rintro ⟨⟩ -
  dsimp only [List.cons_append, List.nil_append]
  (repeat refine Z ?_)
  refine XO_call (rreset_spec b x.s x.sb hR) (hk := ?_)
  rintro _ _ ⟨rfl, rfl⟩
  (repeat refine Z ?_)
  refine XO_call (tdropR x.rt zg.reg hg.rg g hgb.1 hgb.2) (hk := ?_)
  rintro _ _ ⟨rfl, rfl⟩
  (repeat refine Z ?_)
  rw [f7, f1, f6]
  refine XE_fold (by exact FAs) (Arn.fold (x := x) (z := ⟨putsC z.C S 0 0, rewM z.P z.m S 0 0 0, z.P, z.reg.drop none g, z.M.eraseIdx i, zg.obj, zg.mar, z.tr, cutW z.rs g 0⟩)) ?_
  rw [← he]
  refine XE_ret (.inr rfl) (tells_tmps rfl rfl) ⟨_, ⟨rfl, rfl⟩, by exact EN⟩
def TrOk (z : Ar) : Prop := ∀ q ∈ z.rs, hKind q.2 = 1 → (z.reg.get q.2).isSome = true → (q.2, q.1) ∈ z.tr
theorem FrI.free {N : Nat} {z : Ar} (hA : AOk N z) (hT : TrOk z) {h : Int} (hid : h ∈ z.tr.map (·.1)) {k : Nat} {zk : Ar} (hF : FrI N { z with tr := dropT z.tr (ordT z.tr h) } ((ordT z.tr h).take k) zk) {g : Int} (hg : (ordT z.tr h)[k]? = some g) :
    g ∉ (ordT z.tr h).take k ∧ (∃ (i b : Nat) (S : Sh), zk.M[i]? = some (b, g, S)) ∧ ∀ y ∈ ofL zk.rs g, hKind y = 1 → zk.reg.get y = none := by
  have hnd := ordF_nd hA.T z.tr.length h
  have hgl := (List.getElem?_eq_some_iff.1 hg).1
  have hgv := (List.getElem?_eq_some_iff.1 hg).2
  have hsp : ordT z.tr h = (ordT z.tr h).take k ++ g :: (ordT z.tr h).drop (k + 1) := by
    rw [← hgv, ← List.drop_eq_getElem_cons hgl, List.take_append_drop]
  have hgn : g ∉ (ordT z.tr h).take k := by
    have hnd' : (ordT z.tr h).Nodup := hnd
    rw [hsp, List.nodup_append] at hnd'
    exact fun e => hnd'.2.2 g e g (by simp) rfl
  have hgt := ordF_in hid (List.mem_of_getElem? hg)
  have hgs := (hA.tk g).1 hgt
  obtain ⟨v, hv⟩ := Option.isSome_iff_exists.1 hgs
  obtain ⟨i, b, S, rfl, hi⟩ := hA.live g v hv
  refine ⟨hgn, ?_, fun y hy hk => ?_⟩
  · obtain ⟨j, hj⟩ := List.getElem?_of_mem ((hF.M (b, g, S)).2 ⟨List.mem_of_getElem? hi, hgn⟩)
    exact ⟨j, b, S, hj⟩
  · have hym := hF.sub _ (ofL_val _ _ _ hy)
    have hyb := hA.rb _ hym
    rw [hF.reg y hyb.1 hyb.2]
    by_cases hp : y ∈ (ordT z.tr h).take k
    · rw [if_pos hp]
    · rw [if_neg hp]
      cases hc : z.reg.get y with
      | none => rfl
      | some u =>
        exfalso
        have := hT (g, y) hym hk (by show (z.reg.get y).isSome = true; rw [hc]; rfl)
        exact hp (ordF_kids z.tr.length h (low_all hA.T h) hsp y (kids_mem.2 this))
theorem FrI.stepF {N : Nat} {z : Ar} (hA : AOk N z) (hT : TrOk z) (hN : 8 * N + 8 ≤ 100000) {h : Int} (hid : h ∈ z.tr.map (·.1)) {k : Nat} {zk : Ar} (hF : FrI N { z with tr := dropT z.tr (ordT z.tr h) } ((ordT z.tr h).take k) zk) {g : Int} (hg : (ordT z.tr h)[k]? = some g) :
    FrI N { z with tr := dropT z.tr (ordT z.tr h) } ((ordT z.tr h).take (k + 1)) (zk.endR g) := by
  obtain ⟨h1, ⟨i, b, S, hi⟩, h2⟩ := FrI.free hA hT hid hF hg
  obtain ⟨n, hNn, hw, hn⟩ := hF.w
  have hol := ordF_len hA.T (n := z.tr.length) hid
  have htl := hA.tl
  have hrl := hA.rl
  have hk : ((ordT z.tr h).take k).length ≤ (ordT z.tr h).length := by rw [List.length_take]; omega
  have e : (ordT z.tr h).length ≤ z.tr.length := hol
  dsimp only at hn
  rw [List.take_add_one, hg]
  exact hF.step hNn hw hn (by show N + z.rs.length + _ + 1 ≤ 100000; omega) h1 hi
theorem ar_free (x : ABl) (z : Ar) {N : Nat} (hA : AOk N z) (hT : TrOk z) (hN : 8 * N + 8 ≤ 100000) (h : Int) (h0 : 0 ≤ h) (h1 : h ≤ 18446744073709551615) (hg : (z.reg.get h).isSome = true) :
    Spec Tryz.prog 33 [.pointer (some ⟨x.a, 0, none⟩), .int .u64 h] [Arn x z] (fun v L => ∃ z', v = .int .i64 0 ∧ L = [Arn x z'] ∧ FrI N { z with tr := dropT z.tr (ordT z.tr h) } (ordT z.tr h) z') := by
  have hid := (hA.tk h).2 hg
  have hnz : h ≠ 0 := fun e => by
    obtain ⟨q, hq, he⟩ := List.mem_map.1 hid
    exact hA.T.nz q hq (he.trans e)
  have htl := hA.tl
  have hol : (ordT z.tr h).length ≤ z.tr.length := ordF_len hA.T (n := z.tr.length) hid
  have hG0 : 0 < (ordT z.tr h).length := List.length_pos_of_mem (ordF_self z.tr z.tr.length h)
  obtain ⟨v, hv⟩ := Option.isSome_iff_exists.1 hg
  refine Spec.intro (IsEnt.out) Tryz.func33 rfl Tryz.ntmps33 (by simp) (fun w0 F => ?_)
  simp only [envOf, List.zipIdx, List.map, List.cons_append, List.nil_append, Nat.zero_add, Nat.reduceAdd]
  (repeat refine Z ?_)
  refine XO_dv dv_box1 (hk := ?_)
  rintro _ _ ⟨cb, rfl, rfl⟩
  (repeat refine Z ?_)
  refine XO_call (ar_region x z hA.w h h0 h1) (hk := ?_)
  rintro _ _ ⟨rfl, rfl⟩
  rw [hv]
  (repeat refine Z ?_)
  refine X_cond rfl (fun h => by cases h) (fun _ => ?_)
  (repeat refine Z ?_)
  refine XO_open (A := Arn x z) (by exact FDs) Arn.open ?_
  rintro ⟨⟩ -
  dsimp only [List.cons_append, List.nil_append]
  (repeat refine Z ?_)
  refine XO_call (drop_spec x.tt z.tr hA.T h hnz hid (by omega)) (hk := ?_)
  rintro _ _ ⟨la, lc, rfl, rfl⟩
  have hF0 : FrI N { z with tr := dropT z.tr (ordT z.tr h) } ((ordT z.tr h).take 0) { z with tr := dropT z.tr (ordT z.tr h) } := by
    rw [List.take_zero]
    exact FrI.nil ⟨z.tr, hA⟩
  have hst := fun (k : Nat) (zk : Ar) (g : Int) hF hg => FrI.stepF hA hT hN hid (k := k) (zk := zk) (g := g) hF hg
  have hfr := fun (k : Nat) (zk : Ar) (g : Int) hF hg => FrI.free hA hT hid (k := k) (zk := zk) (g := g) hF hg
  refine XO_fold (by exact FAs) (Arn.fold (x := x) (z := { z with tr := dropT z.tr (ordT z.tr h) })) ?_
  have hrl : ({ z with tr := dropT z.tr (ordT z.tr h) } : Ar).rs.length ≤ N := hA.rl
  generalize ({ z with tr := dropT z.tr (ordT z.tr h) } : Ar) = z0 at hF0 hst hfr hrl ⊢
  generalize ordT z.tr h = G at hol hG0 hF0 hst hfr ⊢
  (repeat refine Z ?_)
  refine X_loop (ι := Nat × Ar) (fun i => i.1 ≤ G.length ∧ FrI N z0 (G.take i.1) i.2) (fun i => [(7, .func (.func 96) #[] #[.pointer (some ⟨cb, 0, none⟩)]), (24, .slice la G.length lc), (25, .int .i64 (G.length : Int)), (26, .int .i64 (i.1 : Int))]) (fun i => pt cb (.cells [.pointer (some ⟨x.a, 0, none⟩)].toArray 57 (0, 0)) :: Arn x i.2 :: Sl (eI .u64) la lc G :: F) (fun i => G.length - i.1) (0, z0) ⟨Nat.zero_le _, hF0⟩ ?_ (by exact EN) ?_
  · exact SBs
  rintro ⟨k, zk⟩ ⟨hk, hF⟩
  dsimp only at hk hF ⊢
  (repeat refine Z ?_)
  refine X_cond rfl (fun hc => ?_) (fun hc => ?_) <;> simp only [decide_eq_true_eq, decide_eq_false_iff_not] at hc
  · have hkl : k < G.length := by omega
    obtain ⟨g, hgg⟩ : ∃ g, G[k]? = some g := ⟨G[k], by simp [hkl]⟩
    have hget : G[(k : Int).toNat]? = some g := by rw [Int.toNat_natCast]; exact hgg
    obtain ⟨-, ⟨i, b, S, hi⟩, hdead⟩ := hfr k zk g hF hgg
    have hF2 := hst k zk g hF hgg
    obtain ⟨n, hNn, hw, hn⟩ := hF.w
    have htk : (G.take k).length ≤ G.length := by rw [List.length_take]; omega
    refine X_slopen (E' := eI .u64) (a := la) (c := lc) (xs := G) (by exact FDs) hG0 ?_
    rintro qb qo rfl
    (repeat refine Z ?_)
    refine XO_call (ar_end x zk hw (by omega) hi hdead cb) (hk := ?_)
    rintro _ _ ⟨rfl, rfl⟩
    (repeat refine Z ?_)
    exact X_round (k + 1, zk.endR g) ⟨by show k + 1 ≤ G.length; omega, hF2⟩ (by show G.length - (k + 1) < G.length - k; omega) (by exact SBs) (by exact EN)
  · obtain rfl : k = G.length := by omega
    rw [List.take_length] at hF
    (repeat refine Z ?_)
    refine XE_ret (.inl rfl) (tells_tmps rfl rfl) ⟨_, ⟨zk, rfl, rfl, hF⟩, by exact EN⟩
end Go.Proofs.YtamecmklcnohjaaGreat.Sep
namespace Go.Proofs.YtamecmklcnohjaaGreat.Sep
open Go.RowKit
set_option linter.unusedSimpArgs false
set_option linter.unusedVariables false
theorem dropT_len {T : List (Int × Int)} (h : TWf T) {G : List Int} (hn : G.Nodup) (hs : ∀ x ∈ G, x ∈ T.map (·.1)) : (dropT T G).length + G.length ≤ T.length := by
  have h1 := sub_len (G ++ (dropT T G).map (·.1)) (T.map (·.1)) (by
    rw [List.nodup_append]
    refine ⟨hn, h.nd.sublist (List.Sublist.map _ List.filter_sublist), fun a ha b hb e => ?_⟩
    subst e
    exact (dropT_keys.1 hb).2 ha) (fun x hx => by
      rcases List.mem_append.1 hx with h2 | h2
      · exact hs x h2
      · exact (dropT_keys.1 h2).1)
  simp only [List.length_append, List.length_map] at h1
  omega
theorem ofL_mem : ∀ {w : List (Int × Int)} {o v : Int}, v ∈ ofL w o ↔ (o, v) ∈ w
  | [], o, v => by simp [ofL]
  | (a, u) :: w, o, v => by
    unfold ofL
    by_cases e : a = o
    · rw [if_pos e, List.mem_cons, List.mem_cons, ofL_mem]
      subst e
      simp
    · rw [if_neg e, List.mem_cons, ofL_mem]
      have : ¬ o = a := fun h => e h.symm
      simp [this]
def Ar.giveL (z : Ar) (h : Int) : Ar := if hKind h = 1 then (if (z.reg.get h).isSome = true then z.freeR h else z) else z.giveH h
def Ar.giveA (z : Ar) (o : Int) (n : Nat) : Ar := ((ofL z.rs o).drop n).reverse.foldl Ar.giveL { z with rs := cutW z.rs o n }
theorem freeR_FrI {N : Nat} {z : Ar} (hA : AOk N z) (hT : TrOk z) (hN : 8 * N + 8 ≤ 100000) {h : Int} (hg : (z.reg.get h).isSome = true) : FrI N { z with tr := dropT z.tr (ordT z.tr h) } (ordT z.tr h) (z.freeR h) := by
  have hid := (hA.tk h).2 hg
  have key : ∀ k, k ≤ (ordT z.tr h).length → FrI N { z with tr := dropT z.tr (ordT z.tr h) } ((ordT z.tr h).take k) (((ordT z.tr h).take k).foldl Ar.endR { z with tr := dropT z.tr (ordT z.tr h) }) := by
    intro k
    induction k with
    | zero => intro _; rw [List.take_zero]; exact FrI.nil ⟨z.tr, hA⟩
    | succ k ih =>
      intro hk
      obtain ⟨g, hgg⟩ : ∃ g, (ordT z.tr h)[k]? = some g := ⟨_, List.getElem?_eq_getElem (by omega)⟩
      have := FrI.stepF hA hT hN hid (ih (by omega)) hgg
      have e : ((ordT z.tr h).take (k + 1)).foldl Ar.endR { z with tr := dropT z.tr (ordT z.tr h) } = (((ordT z.tr h).take k).foldl Ar.endR { z with tr := dropT z.tr (ordT z.tr h) }).endR g := by
        rw [List.take_add_one, hgg, List.foldl_append]; rfl
      rw [e]; exact this
  have := key (ordT z.tr h).length (Nat.le_refl _)
  rw [List.take_length] at this
  exact this
def AB (B : Nat) (z : Ar) : Prop := ∃ n, AOk n z ∧ n + z.rs.length + z.tr.length ≤ B
theorem AB.le {B B' : Nat} {z : Ar} (h : AB B z) (hB : B ≤ B') : AB B' z := by obtain ⟨n, h1, h2⟩ := h; exact ⟨n, h1, by omega⟩
theorem AB.ok {B : Nat} {z : Ar} (h : AB B z) (hB : B ≤ 100000) : AOk B z := by obtain ⟨n, h1, h2⟩ := h; exact h1.le (by omega) hB
theorem AB.free {B : Nat} {z : Ar} (h : AB B z) (hT : TrOk z) (hB : 8 * B + 8 ≤ 100000) {x : Int} (hg : (z.reg.get x).isSome = true) : AB B (z.freeR x) := by
  obtain ⟨n, hA, hn⟩ := h
  have hF := freeR_FrI hA hT (by omega) hg
  have hid := (hA.tk x).2 hg
  obtain ⟨n', hnn, hw, hn'⟩ := hF.w
  dsimp only at hn'
  have hdl := dropT_len hA.T (ordF_nd hA.T z.tr.length x) (fun y hy => ordF_in hid hy)
  have htr : (z.freeR x).tr = dropT z.tr (ordT z.tr x) := hF.tr
  have htl := hA.tl
  have hol : (ordT z.tr x).length ≤ z.tr.length := ordF_len hA.T (n := z.tr.length) hid
  refine ⟨n', hw.k ?_ ?_ ?_, by rw [htr]; show _ + (dropT z.tr (ordF z.tr z.tr.length x)).length ≤ B; have e : (ordF z.tr z.tr.length x).length = (ordT z.tr x).length := rfl; omega⟩
  · rw [htr]; exact hA.T.drop (low_all hA.T x)
  · rw [htr]; show (dropT z.tr (ordF z.tr z.tr.length x)).length ≤ n'; omega
  · intro y
    rw [htr, dropT_keys, hA.tk y]
    constructor
    · rintro ⟨h1, h2⟩
      obtain ⟨v, hv⟩ := Option.isSome_iff_exists.1 h1
      obtain ⟨x0, x1⟩ := Tb.get_bd hA.rg hv
      rw [hF.reg y x0 x1, if_neg h2]; exact h1
    · intro h1
      obtain ⟨v, hv⟩ := Option.isSome_iff_exists.1 h1
      obtain ⟨x0, x1⟩ := Tb.get_bd hw.rg hv
      rw [hF.reg y x0 x1] at h1
      by_cases h2 : y ∈ ordT z.tr x
      · rw [if_pos h2] at h1; cases h1
      · rw [if_neg h2] at h1; exact ⟨h1, h2⟩
theorem AB.giveH {B : Nat} {z : Ar} (h : AB B z) (hB : B + 1 ≤ 100000) {x : Int} (x0 : 0 ≤ x) (x1 : x ≤ 18446744073709551615) : AB (B + 1) (z.giveH x) := by
  obtain ⟨n, hA, hn⟩ := h
  obtain ⟨f1, f2, f3, f4, f5, f6, f7⟩ := giveH_reg z x
  exact ⟨n + 1, hA.giveH (by omega) x0 x1, by rw [f6, f7]; omega⟩
theorem AB.cut {B : Nat} {z : Ar} (h : AB B z) (o : Int) (n : Nat) : AB (B - ((ofL z.rs o).drop n).length) { z with rs := cutW z.rs o n } := by
  obtain ⟨k, hA, hk⟩ := h
  have hl := length_cutW z.rs o n
  refine ⟨k, hA.cut o n, ?_⟩
  show k + (cutW z.rs o n).length + z.tr.length ≤ _
  rw [List.length_drop]
  omega
def InS (S : Sh) (at_ n : Int) : Prop := ∃ r ∈ S.parts.map runP ++ S.larges, r.1 * 4096 + 32 ≤ at_ ∧ at_ + n ≤ (r.1 + r.2) * 4096
theorem InS.grow {S S' : Sh} {at_ n : Int} (h : InS S at_ n) (hg : Grow S S') : InS S' at_ n := by
  obtain ⟨r, hr, h1⟩ := h
  obtain ⟨⟨a, t, e1, _⟩, ⟨u, e2⟩⟩ := hg
  refine ⟨r, ?_, h1⟩
  rw [e1, e2, List.map_append, setLast_runP]
  rcases List.mem_append.1 hr with h2 | h2
  · exact List.mem_append.2 (.inl (List.mem_append.2 (.inl h2)))
  · exact List.mem_append.2 (.inr (List.mem_append.2 (.inl h2)))
theorem take_take_sub {l : List Int} {n t : Nat} {y : Int} (h : y ∈ (l.take n).take t) : y ∈ l.take t := by
  rw [List.take_take] at h
  exact (List.take_subset_take_left l (Nat.min_le_left _ _)) h
structure InvP (pend : List (Int × Int)) (σ : Int → Sh) (z : Ar) : Prop where
  tr : ∀ q, q ∈ z.rs ∨ q ∈ pend → (hKind q.2 = 1 ∧ z.reg.Old q.2 ∧ ((z.reg.get q.2).isSome = true → (q.2, q.1) ∈ z.tr)) ∨ (hKind q.2 = 2 ∧ z.obj.Old q.2) ∨ (hKind q.2 = 3 ∧ z.mar.Old q.2)
  pb : ∀ q ∈ pend, 0 ≤ q.2 ∧ q.2 ≤ 18446744073709551615
  ob : ∀ y v, z.obj.get y = some v → ((v.2.2, y) ∈ z.rs ∨ (v.2.2, y) ∈ pend) ∧ (z.reg.get v.2.2).isSome = true
  ma : ∀ h k, z.mar.get h = some k → (∃ b S, (b, k.of_, S) ∈ z.M ∧ Grow (σ h) S) ∧ CurOk (σ h) ∧ k = ⟨((σ h).parts.length : Int), ((σ h).larges.length : Int), topAt (σ h), (σ h).obj, (σ h).pad, k.of_, k.tr⟩ ∧
    (0 ≤ topAt (σ h) ∧ topAt (σ h) ≤ 18446744073709551615) ∧ (0 ≤ (σ h).obj ∧ (σ h).obj ≤ 18446744073709551615) ∧ (0 ≤ (σ h).pad ∧ (σ h).pad ≤ 18446744073709551615) ∧
    1 ≤ k.tr ∧ ((ofL z.rs k.of_)[k.tr.toNat - 1]? = some h ∨ (k.of_, h) ∈ pend)
  pw : ∀ h k h' k', z.mar.get h = some k → z.mar.get h' = some k' → k.of_ = k'.of_ → k.tr ≤ k'.tr → Grow (σ h) (σ h')
  pl : ∀ y v b S, z.obj.get y = some v → (b, v.2.2, S) ∈ z.M → InS S v.1 v.2.1
  om : ∀ h k y v, z.mar.get h = some k → z.obj.get y = some v → v.2.2 = k.of_ → y ∈ (ofL z.rs k.of_).take k.tr.toNat → InS (σ h) v.1 v.2.1
abbrev Inv (σ : Int → Sh) (z : Ar) : Prop := InvP [] σ z
theorem InvP.trok {pend : List (Int × Int)} {σ : Int → Sh} {z : Ar} (h : InvP pend σ z) : TrOk z := fun q hq hk hl => by
  rcases h.tr q (.inl hq) with ⟨_, _, h1⟩ | ⟨h1, _⟩ | ⟨h1, _⟩
  · exact h1 hl
  · omega
  · omega
theorem Inv.cut {σ : Int → Sh} {z : Ar} (h : Inv σ z) {N : Nat} (hA : AOk N z) (o : Int) (n : Nat) : InvP (((ofL z.rs o).drop n).reverse.map fun y => (o, y)) σ { z with rs := cutW z.rs o n } := by
  have hmem : ∀ q, q ∈ ((ofL z.rs o).drop n).reverse.map (fun y => (o, y)) → q ∈ z.rs := fun q hq => by
    obtain ⟨y, hy, rfl⟩ := List.mem_map.1 hq
    exact ofL_val _ _ _ (List.mem_of_mem_drop (List.mem_reverse.1 hy))
  have hsplit : ∀ q ∈ z.rs, q ∈ cutW z.rs o n ∨ q ∈ ((ofL z.rs o).drop n).reverse.map (fun y => (o, y)) := fun q hq => by
    obtain ⟨a, y⟩ := q
    by_cases e : a = o
    · subst e
      have h1 : y ∈ ofL z.rs a := ofL_mem.2 hq
      rw [← List.take_append_drop n (ofL z.rs a)] at h1
      rcases List.mem_append.1 h1 with h2 | h2
      · left
        rw [← ofL_mem, ofL_cutW]; exact h2
      · right
        exact List.mem_map.2 ⟨y, List.mem_reverse.2 h2, rfl⟩
    · left
      rw [← ofL_mem, ofL_cutW_ne _ _ _ _ e]; exact ofL_mem.2 hq
  refine ⟨fun q hq => h.tr q (.inl ?_), fun q hq => hA.rb q (hmem q hq), fun y v hv => ?_, fun y k hk => ?_, h.pw, h.pl, fun y k u v e1 e2 e3 e4 => h.om y k u v e1 e2 e3 ?_⟩
  · rcases hq with h1 | h1
    · exact cutW_sub _ _ _ q h1
    · exact hmem q h1
  · obtain ⟨h1, h2⟩ := h.ob y v hv
    refine ⟨hsplit _ (h1.resolve_right (by simp)), h2⟩
  · obtain ⟨m1, m2, m3, m4, m5, m6, m7, m8⟩ := h.ma y k hk
    refine ⟨m1, m2, m3, m4, m5, m6, m7, ?_⟩
    have m8 := m8.resolve_right (by simp)
    show (ofL (cutW z.rs o n) k.of_)[k.tr.toNat - 1]? = some y ∨ _
    by_cases e : k.of_ = o
    · rw [e] at m8 ⊢
      rw [ofL_cutW, List.getElem?_take]
      by_cases hlt : k.tr.toNat - 1 < n
      · rw [if_pos hlt]; exact .inl m8
      · right
        refine List.mem_map.2 ⟨y, List.mem_reverse.2 ?_, rfl⟩
        have : ((ofL z.rs o).drop n)[k.tr.toNat - 1 - n]? = some y := by rw [List.getElem?_drop, show n + (k.tr.toNat - 1 - n) = k.tr.toNat - 1 from by omega]; exact m8
        exact List.mem_of_getElem? this
    · rw [ofL_cutW_ne _ _ _ _ e]; exact .inl m8
  · have e4' : u ∈ (ofL (cutW z.rs o n) k.of_).take k.tr.toNat := e4
    by_cases e : k.of_ = o
    · rw [e] at e4' ⊢
      rw [ofL_cutW] at e4'
      exact take_take_sub e4'
    · rw [ofL_cutW_ne _ _ _ _ e] at e4'
      exact e4'
theorem get_kind {α : Type} {t : Tb α} {x : Int} {v : α} (h : t.get x = some v) : hKind x = t.kind := by
  obtain ⟨i, hi, _⟩ := Tb.get_some h
  exact (Tb.spot_some hi).2.2.1
structure Less (o : Int) (z z' : Ar) : Prop where
  reg : ∀ h v, z'.reg.get h = some v → z.reg.get h = some v
  obj : ∀ h v, z'.obj.get h = some v → z.obj.get h = some v
  mar : ∀ h v, z'.mar.get h = some v → z.mar.get h = some v
  oR : ∀ h, z.reg.Old h → z'.reg.Old h
  oO : ∀ h, z.obj.Old h → z'.obj.Old h
  oM : ∀ h, z.mar.Old h → z'.mar.Old h
  M : ∀ q ∈ z'.M, q ∈ z.M
  P : z'.P = z.P
  kM : ∀ q ∈ z.M, q.2.1 = o → q ∈ z'.M
  kr : (z.reg.get o).isSome = true → (z'.reg.get o).isSome = true
  ko : ofL z'.rs o = ofL z.rs o
theorem Less.refl (o : Int) (z : Ar) : Less o z z := ⟨fun _ _ h => h, fun _ _ h => h, fun _ _ h => h, fun _ h => h, fun _ h => h, fun _ h => h, fun _ h => h, rfl, fun _ h _ => h, fun h => h, rfl⟩
theorem Less.trans {o : Int} {a b c : Ar} (h : Less o a b) (k : Less o b c) : Less o a c :=
  ⟨fun x v e => h.reg x v (k.reg x v e), fun x v e => h.obj x v (k.obj x v e), fun x v e => h.mar x v (k.mar x v e), fun x e => k.oR x (h.oR x e), fun x e => k.oO x (h.oO x e), fun x e => k.oM x (h.oM x e), fun q e => h.M q (k.M q e), k.P.trans h.P, fun q e f => k.kM q (h.kM q e f) f, fun e => k.kr (h.kr e), k.ko.trans h.ko⟩
theorem freeR_less {N : Nat} {z : Ar} (hA : AOk N z) (hT : TrOk z) (hN : 8 * N + 8 ≤ 100000) {h o : Int} (hg : (z.reg.get h).isSome = true) (ho : o ∉ ordT z.tr h) (ob : 0 ≤ o ∧ o ≤ 18446744073709551615) : Less o z (z.freeR h) := by
  have hF := freeR_FrI hA hT hN hg
  obtain ⟨n', -, hw, -⟩ := hF.w
  refine ⟨fun x v e => ?_, fun x v e => ?_, fun x v e => ?_, hF.old, hF.olo, hF.olm, fun q hq => ((hF.M q).1 hq).1, hF.P, fun q hq e => (hF.M q).2 ⟨hq, by rw [e]; exact ho⟩, fun e => ?_, hF.of_ o ho⟩
  · obtain ⟨x0, x1⟩ := Tb.get_bd hw.rg e
    rw [hF.reg x x0 x1] at e
    split at e
    · cases e
    · exact e
  · obtain ⟨x0, x1⟩ := Tb.get_bd hw.ob e
    rw [hF.ob x x0 x1] at e
    split at e
    · cases e
    · exact e
  · obtain ⟨x0, x1⟩ := Tb.get_bd hw.mr e
    rw [hF.ma x x0 x1] at e
    split at e
    · cases e
    · exact e
  · rw [hF.reg o ob.1 ob.2, if_neg ho]; exact e
theorem InvP.free {pend : List (Int × Int)} {σ : Int → Sh} {z : Ar} (h : InvP pend σ z) {N : Nat} (hA : AOk N z) (hN : 8 * N + 8 ≤ 100000) {x o : Int} (hg : (z.reg.get x).isSome = true) (hp : ∀ q ∈ pend, q.1 = o) (ho : o ∉ ordT z.tr x ∨ pend = []) : InvP pend σ (z.freeR x) := by
  have hT := h.trok
  have hF := freeR_FrI hA hT hN hg
  obtain ⟨n', -, hw, -⟩ := hF.w
  have hpo : ∀ q ∈ pend, q.1 ∉ ordT z.tr x := fun q hq => by
    rcases ho with h1 | h1
    · rw [hp q hq]; exact h1
    · rw [h1] at hq; cases hq
  have hrs : ∀ a b, a ∉ ordT z.tr x → (a, b) ∈ z.rs → (a, b) ∈ (z.freeR x).rs := fun a b ha hb => by
    rw [← ofL_mem, hF.of_ a ha]; exact ofL_mem.2 hb
  have hmG : ∀ y k, (z.freeR x).mar.get y = some k → z.mar.get y = some k ∧ k.of_ ∉ ordT z.tr x := fun y k hk => by
    obtain ⟨x0, x1⟩ := Tb.get_bd hw.mr hk
    rw [hF.ma y x0 x1] at hk
    split at hk
    · cases hk
    · rename_i hno
      have hkk : hKind y = 3 := by rw [get_kind hk]; exact hA.k3
      obtain ⟨-, -, -, -, -, -, -, m8⟩ := h.ma y k hk
      refine ⟨hk, fun hG => ?_⟩
      rcases m8 with h1 | h1
      · exact hno ⟨⟨k.of_, hG, List.mem_of_getElem? h1⟩, by omega, by omega⟩
      · exact hpo _ h1 hG
  have hoG : ∀ y v, (z.freeR x).obj.get y = some v → z.obj.get y = some v := fun y v e => by
    obtain ⟨x0, x1⟩ := Tb.get_bd hw.ob e
    rw [hF.ob y x0 x1] at e
    split at e
    · cases e
    · exact e
  refine ⟨fun q hq => ?_, h.pb, fun y v hv => ?_, fun y k hk => ?_, fun y k y' k' e1 e2 => ?_, fun y v b S e1 e2 => h.pl y v b S (hoG y v e1) ((hF.M _).1 e2).1, fun y k u v e1 e2 e3 e4 => ?_⟩
  case refine_5 =>
    obtain ⟨g1, g2⟩ := hmG y k e1
    rw [hF.of_ _ g2] at e4
    exact h.om y k u v g1 (hoG u v e2) e3 e4
  · have hq' : q ∈ z.rs ∨ q ∈ pend := hq.imp (fun h1 => hF.sub q h1) id
    rcases h.tr q hq' with ⟨h1, h2, h3⟩ | ⟨h1, h2⟩ | ⟨h1, h2⟩
    · refine .inl ⟨h1, hF.old _ h2, fun h4 => ?_⟩
      obtain ⟨v, hv⟩ := Option.isSome_iff_exists.1 h4
      obtain ⟨x0, x1⟩ := Tb.get_bd hw.rg hv
      rw [hF.reg _ x0 x1] at h4
      by_cases hG : q.2 ∈ ordT z.tr x
      · rw [if_pos hG] at h4; cases h4
      · rw [if_neg hG] at h4
        rw [hF.tr]
        exact dropT_mem.2 ⟨h3 h4, hG⟩
    · exact .inr (.inl ⟨h1, hF.olo _ h2⟩)
    · exact .inr (.inr ⟨h1, hF.olm _ h2⟩)
  · obtain ⟨x0, x1⟩ := Tb.get_bd hw.ob hv
    rw [hF.ob y x0 x1] at hv
    split at hv
    · cases hv
    · rename_i hno
      have hk : hKind y = 2 := by rw [get_kind hv]; exact hA.k2
      obtain ⟨h1, h2⟩ := h.ob y v hv
      have hnG : v.2.2 ∉ ordT z.tr x := fun hG => by
        rcases h1 with h1 | h1
        · exact hno ⟨⟨v.2.2, hG, ofL_mem.2 h1⟩, hk⟩
        · exact hpo _ h1 hG
      refine ⟨h1.imp (hrs _ _ hnG) id, ?_⟩
      obtain ⟨u, hu⟩ := Option.isSome_iff_exists.1 h2
      obtain ⟨u0, u1⟩ := Tb.get_bd hA.rg hu
      rw [hF.reg _ u0 u1, if_neg hnG]; exact h2
  · obtain ⟨g1, hnG⟩ := hmG y k hk
    obtain ⟨⟨b, S, m1, m1'⟩, m2, m3, m4, m5, m6, m7, m8⟩ := h.ma y k g1
    refine ⟨⟨b, S, (hF.M _).2 ⟨m1, hnG⟩, m1'⟩, m2, m3, m4, m5, m6, m7, m8.imp (fun h1 => ?_) id⟩
    rw [hF.of_ _ hnG]; exact h1
  · exact h.pw y k y' k' (hmG y k e1).1 (hmG y' k' e2).1
theorem InvP.skip {pend : List (Int × Int)} {σ : Int → Sh} {z : Ar} {o y : Int} (h : InvP ((o, y) :: pend) σ z) {N : Nat} (hA : AOk N z) (hk : hKind y = 1) : InvP pend σ z := by
  refine ⟨fun q hq => h.tr q (hq.imp id fun e => List.mem_cons.2 (.inr e)), fun q hq => h.pb q (List.mem_cons.2 (.inr hq)), fun x v hv => ?_, fun x k hx => ?_, h.pw, h.pl, h.om⟩
  · obtain ⟨h1, h2⟩ := h.ob x v hv
    have hkx : hKind x = 2 := by rw [get_kind hv]; exact hA.k2
    refine ⟨h1.imp id fun e => ?_, h2⟩
    rcases List.mem_cons.1 e with e | e
    · simp only [Prod.mk.injEq] at e
      rw [e.2] at hkx; omega
    · exact e
  · obtain ⟨m1, m2, m3, m4, m5, m6, m7, m8⟩ := h.ma x k hx
    have hkx : hKind x = 3 := by rw [get_kind hx]; exact hA.k3
    refine ⟨m1, m2, m3, m4, m5, m6, m7, m8.imp id fun e => ?_⟩
    rcases List.mem_cons.1 e with e | e
    · simp only [Prod.mk.injEq] at e
      rw [e.2] at hkx; omega
    · exact e
theorem InvP.give1 {pend : List (Int × Int)} {σ : Int → Sh} {z : Ar} {o y : Int} (h : InvP ((o, y) :: pend) σ z) {N : Nat} (hA : AOk N z) (hN : 8 * N + 8 ≤ 100000) (hp : ∀ q ∈ pend, q.1 = o) (ob : 0 ≤ o ∧ o ≤ 18446744073709551615) : InvP pend σ (z.giveL y) ∧ Less o z (z.giveL y) := by
  have hyb := h.pb (o, y) (by simp)
  have hyt := h.tr (o, y) (.inr (by simp))
  dsimp only at hyb hyt
  unfold Ar.giveL
  by_cases hk : hKind y = 1
  · rw [if_pos hk]
    have h' := h.skip hA hk
    by_cases hl : (z.reg.get y).isSome = true
    · rw [if_pos hl]
      have hyo : (y, o) ∈ z.tr := by
        rcases hyt with ⟨_, _, e⟩ | ⟨e, _⟩ | ⟨e, _⟩
        · exact e hl
        · omega
        · omega
      have ho : o ∉ ordT z.tr y := fun hx => ordF_acyc hA.T (kids_mem.2 hyo) hx
      exact ⟨h'.free hA hN hl hp (.inl ho), freeR_less hA h.trok hN hl ho ob⟩
    · rw [if_neg hl]
      exact ⟨h', Less.refl o z⟩
  rw [if_neg hk]
  unfold Ar.giveH
  rw [if_neg hk]
  by_cases hk2 : hKind y = 2
  · rw [if_pos hk2]
    have hdg : ∀ x v, (z.obj.drop (0, 0, 0) y).get x = some v → x ≠ y ∧ z.obj.get x = some v := fun x v e => by
      obtain ⟨x0, x1⟩ := Tb.get_bd (hA.ob.drop (by have := hA.hN; omega) (0, 0, 0) y) e
      rw [Tb.get_drop hA.ob _ x0 x1 hyb.1 hyb.2] at e
      by_cases e2 : x = y
      · rw [if_pos e2] at e; cases e
      · rw [if_neg e2] at e; exact ⟨e2, e⟩
    refine ⟨⟨fun q hq => ?_, fun q hq => h.pb q (List.mem_cons.2 (.inr hq)), fun x v hv => ?_, fun x k hx => ?_, h.pw, fun u v b S e1 e2 => h.pl u v b S (hdg u v e1).2 e2, fun u k w v e1 e2 e3 e4 => h.om u k w v e1 (hdg w v e2).2 e3 e4⟩, ⟨fun _ _ e => e, fun x v e => (hdg x v e).2, fun _ _ e => e, fun _ e => e, fun x e => e.drop hA.ob _ y, fun _ e => e, fun _ e => e, rfl, fun _ e _ => e, fun e => e, rfl⟩⟩
    · rcases h.tr q (hq.imp id fun e => List.mem_cons.2 (.inr e)) with h1 | ⟨h1, h2⟩ | h1
      · exact .inl h1
      · exact .inr (.inl ⟨h1, h2.drop hA.ob _ y⟩)
      · exact .inr (.inr h1)
    · obtain ⟨hne, hv'⟩ := hdg x v hv
      obtain ⟨h1, h2⟩ := h.ob x v hv'
      refine ⟨h1.imp id fun e => ?_, h2⟩
      rcases List.mem_cons.1 e with e | e
      · simp only [Prod.mk.injEq] at e
        exact absurd e.2 hne
      · exact e
    · obtain ⟨m1, m2, m3, m4, m5, m6, m7, m8⟩ := h.ma x k hx
      have hkx : hKind x = 3 := by rw [get_kind hx]; exact hA.k3
      refine ⟨m1, m2, m3, m4, m5, m6, m7, m8.imp id fun e => ?_⟩
      rcases List.mem_cons.1 e with e | e
      · simp only [Prod.mk.injEq] at e
        rw [e.2] at hkx; omega
      · exact e
  · rw [if_neg hk2]
    have hdg : ∀ x v, (z.mar.drop ⟨0, 0, 0, 0, 0, 0, 0⟩ y).get x = some v → x ≠ y ∧ z.mar.get x = some v := fun x v e => by
      obtain ⟨x0, x1⟩ := Tb.get_bd (hA.mr.drop (by have := hA.hN; omega) ⟨0, 0, 0, 0, 0, 0, 0⟩ y) e
      rw [Tb.get_drop hA.mr _ x0 x1 hyb.1 hyb.2] at e
      by_cases e2 : x = y
      · rw [if_pos e2] at e; cases e
      · rw [if_neg e2] at e; exact ⟨e2, e⟩
    refine ⟨⟨fun q hq => ?_, fun q hq => h.pb q (List.mem_cons.2 (.inr hq)), fun x v hv => ?_, fun x k hx => ?_, fun x k x' k' e1 e2 => h.pw x k x' k' (hdg x k e1).2 (hdg x' k' e2).2, h.pl, fun u k w v e1 e2 e3 e4 => h.om u k w v (hdg u k e1).2 e2 e3 e4⟩, ⟨fun _ _ e => e, fun _ _ e => e, fun x v e => (hdg x v e).2, fun _ e => e, fun _ e => e, fun x e => e.drop hA.mr _ y, fun _ e => e, rfl, fun _ e _ => e, fun e => e, rfl⟩⟩
    · rcases h.tr q (hq.imp id fun e => List.mem_cons.2 (.inr e)) with h1 | h1 | ⟨h1, h2⟩
      · exact .inl h1
      · exact .inr (.inl h1)
      · exact .inr (.inr ⟨h1, h2.drop hA.mr _ y⟩)
    · obtain ⟨h1, h2⟩ := h.ob x v hv
      have hkx : hKind x = 2 := by rw [get_kind hv]; exact hA.k2
      refine ⟨h1.imp id fun e => ?_, h2⟩
      rcases List.mem_cons.1 e with e | e
      · simp only [Prod.mk.injEq] at e
        rw [e.2] at hkx; omega
      · exact e
    · obtain ⟨hne, hx'⟩ := hdg x k hx
      obtain ⟨m1, m2, m3, m4, m5, m6, m7, m8⟩ := h.ma x k hx'
      refine ⟨m1, m2, m3, m4, m5, m6, m7, m8.imp id fun e => ?_⟩
      rcases List.mem_cons.1 e with e | e
      · simp only [Prod.mk.injEq] at e
        exact absurd e.2 hne
      · exact e
theorem AB.giveL {B : Nat} {z : Ar} (h : AB B z) (hT : TrOk z) (hB : 8 * B + 8 ≤ 100000) {x : Int} (x0 : 0 ≤ x) (x1 : x ≤ 18446744073709551615) : AB (B + 1) (z.giveL x) := by
  unfold Ar.giveL
  by_cases hk : hKind x = 1
  · rw [if_pos hk]
    by_cases hl : (z.reg.get x).isSome = true
    · rw [if_pos hl]; exact (h.free hT hB hl).le (Nat.le_succ _)
    · rw [if_neg hl]; exact h.le (Nat.le_succ _)
  · rw [if_neg hk]; exact h.giveH (by omega) x0 x1
theorem InvP.gives {σ : Int → Sh} {o : Int} (ob : 0 ≤ o ∧ o ≤ 18446744073709551615) : ∀ (l : List Int) {z : Ar} {B : Nat}, InvP (l.map fun y => (o, y)) σ z → AB B z → 8 * (B + l.length) + 8 ≤ 100000 → Inv σ (l.foldl Ar.giveL z) ∧ AB (B + l.length) (l.foldl Ar.giveL z) ∧ Less o z (l.foldl Ar.giveL z)
  | [], z, B, h, hB, _ => ⟨h, hB, Less.refl o z⟩
  | y :: l, z, B, h, hB, hN => by
    simp only [List.length_cons] at hN ⊢
    have hyb := h.pb (o, y) (by simp)
    have h1 := InvP.give1 (pend := l.map fun y => (o, y)) h (hB.ok (by omega)) (by omega) (fun q hq => by obtain ⟨u, _, rfl⟩ := List.mem_map.1 hq; rfl) ob
    have h2 := hB.giveL h.trok (by omega) hyb.1 hyb.2
    obtain ⟨h3, h4, h5⟩ := InvP.gives ob l h1.1 h2 (by omega)
    rw [List.foldl_cons]
    exact ⟨h3, h4.le (by omega), h1.2.trans h5⟩
theorem Inv.giveA {σ : Int → Sh} {z : Ar} {B : Nat} (h : Inv σ z) (hB : AB B z) (hN : 8 * B + 8 ≤ 100000) {o : Int} (ob : 0 ≤ o ∧ o ≤ 18446744073709551615) (n : Nat) : Inv σ (z.giveA o n) ∧ AB B (z.giveA o n) ∧ Less o { z with rs := cutW z.rs o n } (z.giveA o n) := by
  have hA := hB.ok (by omega)
  have hc := hB.cut o n
  have hlen : ((ofL z.rs o).drop n).length ≤ B := by
    have h1 := length_ofL_le z.rs o
    have h2 := hA.rl
    rw [List.length_drop]; omega
  have := InvP.gives ob ((ofL z.rs o).drop n).reverse (h.cut hA o n) hc (by rw [List.length_reverse]; omega)
  rw [List.length_reverse, Nat.sub_add_cancel hlen] at this
  exact this
end Go.Proofs.YtamecmklcnohjaaGreat.Sep
namespace Go.Proofs.YtamecmklcnohjaaGreat.Sep
open Go.RowKit
set_option linter.unusedSimpArgs false
set_option linter.unusedVariables false
theorem mem_set_ne {M : List RgT} {i : Nat} {x q r : RgT} (hi : M[i]? = some r) (hq : q ∈ M) (hne : q.2.1 ≠ r.2.1) : q ∈ M.set i x := by
  obtain ⟨j, hj⟩ := List.getElem?_of_mem hq
  have hij : i ≠ j := fun e => by rw [e, hj] at hi; cases hi; exact hne rfl
  exact List.mem_of_getElem? (show (M.set i x)[j]? = some q by rw [List.getElem?_set_ne hij]; exact hj)
theorem mem_set_eq {M : List RgT} {i : Nat} {x r : RgT} (hi : M[i]? = some r) : x ∈ M.set i x :=
  List.mem_of_getElem? (show (M.set i x)[i]? = some x by rw [List.getElem?_set_self]; exact (List.getElem?_eq_some_iff.1 hi).1)
theorem M_same {M : List RgT} (hn : (M.map (·.2.1)).Nodup) {i b b' : Nat} {o : Int} {S S' : Sh} (hi : M[i]? = some (b, o, S)) (hq : (b', o, S') ∈ M) : b' = b ∧ S' = S := by
  obtain ⟨j, hj⟩ := List.getElem?_of_mem hq
  have := M_ix hn hi hj rfl
  subst this
  rw [hi] at hj; cases hj; exact ⟨rfl, rfl⟩
theorem ofL_snoc_get {w : List (Int × Int)} {o a v h : Int} {i : Nat} (h1 : (ofL w o)[i]? = some h) : (ofL (w ++ [(a, v)]) o)[i]? = some h := by
  rw [ofL_append, List.getElem?_append_left (List.getElem?_eq_some_iff.1 h1).1]; exact h1
theorem Inv.len {σ : Int → Sh} {z : Ar} (h : Inv σ z) {y : Int} {k : MkT} (hk : z.mar.get y = some k) : k.tr.toNat ≤ (ofL z.rs k.of_).length := by
  obtain ⟨_, _, _, _, _, _, m7, m8⟩ := h.ma y k hk
  have := (List.getElem?_eq_some_iff.1 (m8.resolve_right (by simp))).1
  omega
theorem take_snoc {w : List (Int × Int)} {o a v y : Int} {t : Nat} (ht : t ≤ (ofL w o).length) (h : y ∈ (ofL (w ++ [(a, v)]) o).take t) : y ∈ (ofL w o).take t := by
  rw [ofL_append, List.take_append_of_le_length ht] at h; exact h
theorem mem_of_set {M : List RgT} (hn : (M.map (·.2.1)).Nodup) {i : Nat} {x q r : RgT} (hi : M[i]? = some r) (hq : q ∈ M.set i x) : q = x ∨ (q ∈ M ∧ q.2.1 ≠ r.2.1) := by
  obtain ⟨j, hj⟩ := List.getElem?_of_mem hq
  by_cases e : i = j
  · subst e
    rw [List.getElem?_set_self (List.getElem?_eq_some_iff.1 hi).1] at hj
    cases hj; exact .inl rfl
  · rw [List.getElem?_set_ne e] at hj
    exact .inr ⟨List.mem_of_getElem? hj, fun e2 => e (M_ix hn hi hj e2.symm)⟩
theorem Inv.created {σ : Int → Sh} {z : Ar} (h : Inv σ z) {N : Nat} (hA : AOk N z) (hN : N + 1 ≤ 100000) (p : Int) (b : Nat) : Inv σ (z.created p b) := by
  have hab := Tb.addH_bd hA.rg
  have hane := Tb.addH_ne hA.rg
  have hak := (Tb.addH_parts hA.rg).1
  rw [hA.k1] at hak
  have hcg := fun {x : Int} => created_get (x := x) hA hN b
  have hlv : ∀ x, (z.reg.get x).isSome = true → (((z.reg.add none).put z.reg.addH (some b)).get x).isSome = true := fun x hx => by
    obtain ⟨v, hv⟩ := Option.isSome_iff_exists.1 hx
    obtain ⟨x0, x1⟩ := Tb.get_bd hA.rg hv
    rw [hcg x0 x1]
    split
    · rfl
    · exact hx
  have hTa := (hA.rg.add (by omega) none).put z.reg.addH (some b)
  have hsub : ∀ q ∈ z.rs, q ∈ (z.created p b).rs := fun q hq => by
    show q ∈ (if p = 0 then z.rs else z.rs ++ [(p, z.reg.addH)])
    split
    · exact hq
    · exact List.mem_append.2 (.inl hq)
  refine ⟨fun q hq => ?_, (fun q hq => by cases hq), fun y v hv => ?_, fun y k hk => ?_, h.pw, fun y v b' S e1 e2 => ?_, fun y k u v e1 e2 e3 e4 => h.om y k u v e1 e2 e3 ?_⟩
  · have hq := hq.resolve_right (by simp)
    have hq' : q ∈ (if p = 0 then z.rs else z.rs ++ [(p, z.reg.addH)]) := hq
    have hold : q ∈ z.rs → (hKind q.2 = 1 ∧ (z.created p b).reg.Old q.2 ∧ (((z.created p b).reg.get q.2).isSome = true → (q.2, q.1) ∈ (z.created p b).tr)) ∨ (hKind q.2 = 2 ∧ (z.created p b).obj.Old q.2) ∨ (hKind q.2 = 3 ∧ (z.created p b).mar.Old q.2) := fun h1 => by
      rcases h.tr q (.inl h1) with ⟨a1, a2, a3⟩ | a | a
      · refine .inl ⟨a1, (a2.add hA.rg none).put _ _, fun a4 => ?_⟩
        have a4' : (((z.reg.add none).put z.reg.addH (some b)).get q.2).isSome = true := a4
        have hb := hA.rb q h1
        rw [hcg hb.1 hb.2, if_neg (a2.ne hA.rg)] at a4'
        exact List.mem_append.2 (.inl (a3 a4'))
      · exact .inr (.inl a)
      · exact .inr (.inr a)
    split at hq'
    · exact hold hq'
    · rcases List.mem_append.1 hq' with h1 | h1
      · exact hold h1
      · simp at h1
        subst h1
        refine .inl ⟨hak, (Tb.Old.addH hA.rg none).put _ _, fun _ => ?_⟩
        show (z.reg.addH, p) ∈ z.tr ++ [(z.reg.addH, p)]
        simp
  · obtain ⟨h1, h2⟩ := h.ob y v hv
    exact ⟨.inl (hsub _ (h1.resolve_right (by simp))), hlv _ h2⟩
  · obtain ⟨⟨b', S, m1, m1'⟩, m2, m3, m4, m5, m6, m7, m8⟩ := h.ma y k hk
    have m8 := m8.resolve_right (by simp)
    refine ⟨⟨b', S, List.mem_append.2 (.inl m1), m1'⟩, m2, m3, m4, m5, m6, m7, .inl ?_⟩
    show (ofL (if p = 0 then z.rs else z.rs ++ [(p, z.reg.addH)]) k.of_)[k.tr.toNat - 1]? = some y
    split
    · exact m8
    · exact ofL_snoc_get m8
  · rcases List.mem_append.1 (show (b', v.2.2, S) ∈ z.M ++ [(b, z.reg.addH, emptySh)] from e2) with h1 | h1
    · exact h.pl y v b' S e1 h1
    · simp at h1
      have := (h.ob y v e1).2
      rw [h1.2.1, Tb.addH_new hA.rg] at this
      cases this
  · have e4' : u ∈ (ofL (if p = 0 then z.rs else z.rs ++ [(p, z.reg.addH)]) k.of_).take k.tr.toNat := e4
    split at e4'
    · exact e4'
    · exact take_snoc (h.len e1) e4'
theorem AB.created {B : Nat} {z : Ar} (h : AB B z) (hB : B + 3 ≤ 100000) {p : Int} (hp : p = 0 ∨ (z.reg.get p).isSome = true) (b : Nat) : AB (B + 3) (z.created p b) := by
  obtain ⟨n, hA, hn⟩ := h
  refine ⟨n + 1, hA.created (by omega) hp b, ?_⟩
  show n + 1 + (if p = 0 then z.rs else z.rs ++ [(p, z.reg.addH)]).length + (z.tr ++ [(z.reg.addH, p)]).length ≤ _
  split <;> (try simp only [List.length_append, List.length_cons, List.length_nil]) <;> omega
theorem Inv.alloced {σ : Int → Sh} {z : Ar} (h : Inv σ z) {N : Nat} (hA : AOk N z) (hN : N + 1 ≤ 100000) {i b : Nat} {of_ size align : Int} {S S' : Sh} (hq : z.M[i]? = some (b, of_, S)) {C' : Co} {m' : Mm} {at_ e : Int} (h0 : 0 ≤ size) (h2 : 0 ≤ align) (h3 : align ≤ 18446744073709551615) (har : AR z.P z.C z.m S of_ size align C' m' S' at_ e) : Inv σ (z.alloced i b of_ size C' m' S' at_ e) := by
  have hqm := List.mem_of_getElem? hq
  have hob := hA.hb _ hqm
  have hgo := hA.own _ hqm
  have hR := hA.R.one hq
  dsimp only at hob hgo hR
  have hak := (Tb.addH_parts hA.ob).1
  rw [hA.k2] at hak
  have hsub : ∀ q ∈ z.rs, q ∈ (z.alloced i b of_ size C' m' S' at_ e).rs := fun q hq => by
    show q ∈ (if e = 0 then z.rs ++ [(of_, z.obj.addH)] else z.rs)
    split
    · exact List.mem_append.2 (.inl hq)
    · exact hq
  have hoO : ∀ y, z.obj.Old y → (z.alloced i b of_ size C' m' S' at_ e).obj.Old y := fun y hy => by
    show (if e = 0 then z.obj.add (at_, size, of_) else z.obj).Old y
    split
    · exact hy.add hA.ob _
    · exact hy
  have hgr : Grow S S' := har.grow hR (by omega) h0 h2 h3 (Grow.refl S)
  have hog : ∀ y v, (z.alloced i b of_ size C' m' S' at_ e).obj.get y = some v → (e = 0 ∧ y = z.obj.addH ∧ v = (at_, size, of_)) ∨ z.obj.get y = some v := fun y v hv => by
    have hv' : (if e = 0 then z.obj.add (at_, size, of_) else z.obj).get y = some v := hv
    by_cases he : e = 0
    · rw [if_pos he] at hv'
      obtain ⟨y0, y1⟩ := Tb.get_bd (hA.ob.add (by omega) (at_, size, of_)) hv'
      rw [Tb.get_add hA.ob _ y0 y1] at hv'
      split at hv'
      · rename_i ey; cases hv'; exact .inl ⟨he, ey, rfl⟩
      · exact .inr hv'
    · rw [if_neg he] at hv'; exact .inr hv'
  refine ⟨fun q hq => ?_, (fun q hq => by cases hq), fun y v hv => ?_, fun y k hk => ?_, h.pw, fun y v b' S0 e1 e2 => ?_, fun y k u v e1 e2 e3 e4 => ?_⟩
  case refine_4 =>
    rcases mem_of_set hA.nd hq e2 with h1 | ⟨h1, h1'⟩
    · simp only [Prod.mk.injEq] at h1
      obtain ⟨rfl, ho, rfl⟩ := h1
      rcases hog y v e1 with ⟨he, _, rfl⟩ | h4
      · obtain ⟨_, _, r, hr, p1, p2, _⟩ := har.place hR (by omega) h0 h2 h3 he
        exact ⟨r, hr, p1, p2⟩
      · exact (h.pl y v b' S h4 (by rw [ho]; exact hqm)).grow hgr
    · rcases hog y v e1 with ⟨_, _, rfl⟩ | h4
      · exact absurd rfl h1'
      · exact h.pl y v b' S0 h4 h1
  case refine_5 =>
    have e4' : u ∈ (ofL (if e = 0 then z.rs ++ [(of_, z.obj.addH)] else z.rs) k.of_).take k.tr.toNat := e4
    have e5 : u ∈ (ofL z.rs k.of_).take k.tr.toNat := by
      split at e4'
      · exact take_snoc (h.len e1) e4'
      · exact e4'
    rcases hog u v e2 with ⟨_, hu, _⟩ | h4
    · exfalso
      have hm := ofL_val _ _ _ (List.mem_of_mem_take e5)
      rcases h.tr _ (.inl hm) with ⟨h1, _⟩ | ⟨_, h1⟩ | ⟨h1, _⟩
      · rw [hu, hak] at h1; cases h1
      · exact h1.ne hA.ob hu
      · rw [hu, hak] at h1; cases h1
    · exact h.om y k u v e1 h4 e3 e5
  · have hq := hq.resolve_right (by simp)
    have hold : q ∈ z.rs → (hKind q.2 = 1 ∧ z.reg.Old q.2 ∧ ((z.reg.get q.2).isSome = true → (q.2, q.1) ∈ z.tr)) ∨ (hKind q.2 = 2 ∧ (z.alloced i b of_ size C' m' S' at_ e).obj.Old q.2) ∨ (hKind q.2 = 3 ∧ z.mar.Old q.2) := fun h1 => by
      rcases h.tr q (.inl h1) with a | ⟨a1, a2⟩ | a
      · exact .inl a
      · exact .inr (.inl ⟨a1, hoO _ a2⟩)
      · exact .inr (.inr a)
    have hq' : q ∈ (if e = 0 then z.rs ++ [(of_, z.obj.addH)] else z.rs) := hq
    by_cases he : e = 0
    · rw [if_pos he] at hq'
      rcases List.mem_append.1 hq' with h1 | h1
      · exact hold h1
      · simp at h1
        subst h1
        refine .inr (.inl ⟨hak, ?_⟩)
        show (if e = 0 then z.obj.add (at_, size, of_) else z.obj).Old z.obj.addH
        rw [if_pos he]
        exact Tb.Old.addH hA.ob _
    · rw [if_neg he] at hq'
      exact hold hq'
  · have hv' : (if e = 0 then z.obj.add (at_, size, of_) else z.obj).get y = some v := hv
    have hold : z.obj.get y = some v → ((v.2.2, y) ∈ (z.alloced i b of_ size C' m' S' at_ e).rs ∨ (v.2.2, y) ∈ ([] : List (Int × Int))) ∧ (z.reg.get v.2.2).isSome = true := fun h1 => by
      obtain ⟨a1, a2⟩ := h.ob y v h1
      exact ⟨.inl (hsub _ (a1.resolve_right (by simp))), a2⟩
    by_cases he : e = 0
    · rw [if_pos he] at hv'
      obtain ⟨y0, y1⟩ := Tb.get_bd (hA.ob.add (by omega) (at_, size, of_)) hv'
      rw [Tb.get_add hA.ob _ y0 y1] at hv'
      split at hv'
      · rename_i ey
        cases hv'
        subst ey
        refine ⟨.inl ?_, by show (z.reg.get of_).isSome = true; rw [hgo]; rfl⟩
        show (of_, z.obj.addH) ∈ (if e = 0 then z.rs ++ [(of_, z.obj.addH)] else z.rs)
        rw [if_pos he]; simp
      · exact hold hv'
    · rw [if_neg he] at hv'
      exact hold hv'
  · obtain ⟨⟨b', S0, m1, m1'⟩, m2, m3, m4, m5, m6, m7, m8⟩ := h.ma y k hk
    have m8 := m8.resolve_right (by simp)
    refine ⟨?_, m2, m3, m4, m5, m6, m7, .inl ?_⟩
    · by_cases ek : k.of_ = of_
      · rw [ek] at m1 ⊢
        obtain ⟨rfl, rfl⟩ := M_same hA.nd hq m1
        exact ⟨b', S', mem_set_eq hq, har.grow hR (by omega) h0 h2 h3 m1'⟩
      · exact ⟨b', S0, mem_set_ne hq m1 ek, m1'⟩
    · show (ofL (if e = 0 then z.rs ++ [(of_, z.obj.addH)] else z.rs) k.of_)[k.tr.toNat - 1]? = some y
      split
      · exact ofL_snoc_get m8
      · exact m8
theorem AB.alloced {B : Nat} {z : Ar} (h : AB B z) (hB : B + 2 ≤ 100000) {i b : Nat} {of_ size align : Int} {S S' : Sh} (hq : z.M[i]? = some (b, of_, S)) {C' : Co} {m' : Mm} {at_ e : Int} (h0 : 0 ≤ size) (h2 : 0 ≤ align) (h3 : align ≤ 18446744073709551615) (har : AR z.P z.C z.m S of_ size align C' m' S' at_ e) : AB (B + 2) (z.alloced i b of_ size C' m' S' at_ e) := by
  obtain ⟨n, hA, hn⟩ := h
  refine ⟨n + 1, hA.alloced (by omega) hq h0 h2 h3 har, ?_⟩
  show n + 1 + (if e = 0 then z.rs ++ [(of_, z.obj.addH)] else z.rs).length + z.tr.length ≤ _
  split <;> (try simp only [List.length_append, List.length_cons, List.length_nil]) <;> omega
def putσ (σ : Int → Sh) (h : Int) (S : Sh) : Int → Sh := fun x => if x = h then S else σ x
theorem Inv.marked {σ : Int → Sh} {z : Ar} (h : Inv σ z) {N : Nat} (hA : AOk N z) (hN : N + 1 ≤ 100000) {i b : Nat} {of_ : Int} {S : Sh} (hq : z.M[i]? = some (b, of_, S)) : Inv (putσ σ z.mar.addH S) (z.marked of_ S) := by
  have hqm := List.mem_of_getElem? hq
  have hR := hA.R.one hq
  dsimp only at hR
  have hak := (Tb.addH_parts hA.mr).1
  rw [hA.k3] at hak
  have hnw := Tb.addH_new hA.mr
  have htb := top_bd hR.S.ok
  have hmg : ∀ y k, (z.marked of_ S).mar.get y = some k → (y = z.mar.addH ∧ k = mkOf z of_ S) ∨ (y ≠ z.mar.addH ∧ z.mar.get y = some k) := fun y k e => by
    have e' : (z.mar.add (mkOf z of_ S)).get y = some k := e
    obtain ⟨y0, y1⟩ := Tb.get_bd (hA.mr.add (by omega) (mkOf z of_ S)) e'
    rw [Tb.get_add hA.mr _ y0 y1] at e'
    split at e'
    · rename_i ey; cases e'; exact .inl ⟨ey, rfl⟩
    · rename_i ey; exact .inr ⟨ey, e'⟩
  have hpos : ∀ y k, z.mar.get y = some k → k.of_ = of_ → k.tr < ((ofL z.rs of_).length : Int) + 1 := fun y k e ek => by
    obtain ⟨_, _, _, _, _, _, m7, m8⟩ := h.ma y k e
    have m8 := m8.resolve_right (by simp)
    rw [ek] at m8
    have := (List.getElem?_eq_some_iff.1 m8).1
    omega
  refine ⟨fun q hq => ?_, (fun q hq => by cases hq), fun y v hv => ?_, fun y k hk => ?_, fun y k y' k' e1 e2 ek et => ?_, h.pl, fun y k u v e1 e2 e3 e4 => ?_⟩
  case refine_5 =>
    rcases hmg y k e1 with ⟨rfl, rfl⟩ | ⟨hne, e1'⟩
    · have hs : putσ σ z.mar.addH S z.mar.addH = S := by unfold putσ; rw [if_pos rfl]
      rw [hs]
      have e3' : v.2.2 = of_ := e3
      exact h.pl u v b S e2 (by rw [e3']; exact hqm)
    · have hs : putσ σ z.mar.addH S y = σ y := by unfold putσ; rw [if_neg hne]
      rw [hs]
      exact h.om y k u v e1' e2 e3 (take_snoc (h.len e1') e4)
  · have hq := hq.resolve_right (by simp)
    rcases List.mem_append.1 (show q ∈ z.rs ++ [(of_, z.mar.addH)] from hq) with h1 | h1
    · rcases h.tr q (.inl h1) with a | a | ⟨a1, a2⟩
      · exact .inl a
      · exact .inr (.inl a)
      · exact .inr (.inr ⟨a1, a2.add hA.mr _⟩)
    · simp at h1
      subst h1
      exact .inr (.inr ⟨hak, Tb.Old.addH hA.mr _⟩)
  · obtain ⟨a1, a2⟩ := h.ob y v hv
    exact ⟨.inl (List.mem_append.2 (.inl (a1.resolve_right (by simp)))), a2⟩
  · rcases hmg y k hk with ⟨rfl, rfl⟩ | ⟨hne, hk'⟩
    · have hs : putσ σ z.mar.addH S z.mar.addH = S := by unfold putσ; rw [if_pos rfl]
      rw [hs]
      refine ⟨⟨b, S, hqm, Grow.refl S⟩, hR.curOk, rfl, ⟨htb.1, htb.2.1⟩, hR.S.ok.obj, hR.S.ok.pad, by show (1 : Int) ≤ ((ofL z.rs of_).length : Int) + 1; omega, .inl ?_⟩
      show (ofL (z.rs ++ [(of_, z.mar.addH)]) of_)[(((ofL z.rs of_).length : Int) + 1).toNat - 1]? = _
      rw [ofL_append, show (((ofL z.rs of_).length : Int) + 1).toNat - 1 = (ofL z.rs of_).length from by omega, List.getElem?_append_right (Nat.le_refl _)]
      simp [ofL]
    · have hs : putσ σ z.mar.addH S y = σ y := by unfold putσ; rw [if_neg hne]
      rw [hs]
      obtain ⟨m1, m2, m3, m4, m5, m6, m7, m8⟩ := h.ma y k hk'
      exact ⟨m1, m2, m3, m4, m5, m6, m7, .inl (ofL_snoc_get (m8.resolve_right (by simp)))⟩
  · rcases hmg y k e1 with ⟨rfl, rfl⟩ | ⟨hne, e1'⟩ <;> rcases hmg y' k' e2 with ⟨rfl, rfl⟩ | ⟨hne', e2'⟩
    · exact Grow.refl _
    · exfalso
      have := hpos y' k' e2' ek.symm
      have et' : ((ofL z.rs of_).length : Int) + 1 ≤ k'.tr := et
      omega
    · unfold putσ
      rw [if_neg hne, if_pos rfl]
      obtain ⟨⟨b', S0, m1, m1'⟩, -⟩ := h.ma y k e1'
      have ek' : k.of_ = of_ := ek
      rw [ek'] at m1
      obtain ⟨rfl, rfl⟩ := M_same hA.nd hq m1
      exact m1'
    · unfold putσ
      rw [if_neg hne, if_neg hne']
      exact h.pw y k y' k' e1' e2' ek et
theorem AB.marked {B : Nat} {z : Ar} (h : AB B z) (hB : B + 2 ≤ 100000) (of_ : Int) (S : Sh) : AB (B + 2) (z.marked of_ S) := by
  obtain ⟨n, hA, hn⟩ := h
  refine ⟨n + 1, hA.marked (by omega) of_ S, ?_⟩
  show n + 1 + (z.rs ++ [(of_, z.mar.addH)]).length + z.tr.length ≤ _
  simp; omega
def Ar.setS (z : Ar) (i b : Nat) (o : Int) (S S' : Sh) (mc ml at_ : Int) : Ar := ⟨putsC z.C S mc ml, rewM z.P z.m S mc ml at_, z.P, z.reg, z.M.set i (b, o, S'), z.obj, z.mar, z.tr, z.rs⟩
theorem AOk.setS {N : Nat} {z : Ar} (h : AOk N z) (hN : N + 1 ≤ 100000) {i b : Nat} {o : Int} {S : Sh} (hq : z.M[i]? = some (b, o, S)) {mc ml at_ ob pd : Int} (hf : fitsS S mc ml at_ = true) (h0 : 0 ≤ at_) (ho : 0 ≤ ob ∧ ob ≤ 18446744073709551615) (hp : 0 ≤ pd ∧ pd ≤ 18446744073709551615) : AOk (N + 1) (z.setS i b o S (setTop (cutS S mc ml) at_ ob pd) mc ml at_) := by
  have hR := h.R.one hq
  dsimp only at hR
  exact h.shape hN hq ((rew_inv (ob := ob) (pd := pd) hR hf h0 ho hp).le (B' := N + 1) (by omega))
theorem AB.setS {B : Nat} {z : Ar} (h : AB B z) (hB : B + 1 ≤ 100000) {i b : Nat} {o : Int} {S : Sh} (hq : z.M[i]? = some (b, o, S)) {mc ml at_ ob pd : Int} (hf : fitsS S mc ml at_ = true) (h0 : 0 ≤ at_) (ho : 0 ≤ ob ∧ ob ≤ 18446744073709551615) (hp : 0 ≤ pd ∧ pd ≤ 18446744073709551615) : AB (B + 1) (z.setS i b o S (setTop (cutS S mc ml) at_ ob pd) mc ml at_) := by
  obtain ⟨n, hA, hn⟩ := h
  refine ⟨n + 1, hA.setS (by omega) hq hf h0 ho hp, ?_⟩
  show n + 1 + z.rs.length + z.tr.length ≤ _
  omega
theorem Inv.setS {σ : Int → Sh} {z : Ar} (h : Inv σ z) {N : Nat} (hA : AOk N z) {i b : Nat} {o : Int} {S S' : Sh} (hq : z.M[i]? = some (b, o, S)) {mc ml at_ : Int} (hg : ∀ y k, z.mar.get y = some k → k.of_ = o → Grow (σ y) S') (hp : ∀ y v, z.obj.get y = some v → v.2.2 = o → InS S' v.1 v.2.1) : Inv σ (z.setS i b o S S' mc ml at_) := by
  refine ⟨h.tr, h.pb, h.ob, fun y k hk => ?_, h.pw, fun y v b' S0 e1 e2 => ?_, h.om⟩
  case refine_2 =>
    rcases mem_of_set hA.nd hq e2 with h1 | ⟨h1, h1'⟩
    · simp only [Prod.mk.injEq] at h1
      obtain ⟨rfl, ho, rfl⟩ := h1
      exact hp y v e1 ho
    · exact h.pl y v b' S0 e1 h1
  obtain ⟨⟨b', S0, m1, m1'⟩, m2⟩ := h.ma y k hk
  refine ⟨?_, m2⟩
  by_cases ek : k.of_ = o
  · have hgr := hg y k hk ek
    rw [ek]
    exact ⟨b, S', mem_set_eq hq, hgr⟩
  · exact ⟨b', S0, mem_set_ne hq m1 ek, m1'⟩
theorem cut0 (S : Sh) : setTop (cutS S 0 0) 0 0 0 = emptySh := by
  unfold setTop cutS emptySh setLast
  simp
theorem Inv.reset {σ : Int → Sh} {z : Ar} {B : Nat} (h : Inv σ z) (hB : AB B z) (hN : 8 * B + 16 ≤ 100000) {o : Int} {b : Nat} {S : Sh} (hq : (b, o, S) ∈ z.M) :
    ∃ i, (z.giveA o 0).M[i]? = some (b, o, S) ∧ Inv σ ((z.giveA o 0).setS i b o S emptySh 0 0 0) ∧ AB (B + 1) ((z.giveA o 0).setS i b o S emptySh 0 0 0) ∧ Less o { z with rs := cutW z.rs o 0 } (z.giveA o 0) := by
  have hA := hB.ok (by omega)
  have hob := hA.hb _ hq
  dsimp only at hob
  obtain ⟨h1, h2, h3⟩ := h.giveA hB (by omega) hob 0
  obtain ⟨i, hi⟩ := List.getElem?_of_mem (h3.kM (b, o, S) hq rfl)
  have h4 := h2.setS (by omega) hi (fits0 S) (Int.le_refl _) (ob := 0) (pd := 0) (by decide) (by decide)
  rw [cut0] at h4
  refine ⟨i, hi, h1.setS (h2.ok (by omega)) hi (fun y k hk ek => ?_) (fun y v hv ev => ?_), h4, h3⟩
  case refine_2 =>
    exfalso
    have h5 := (h1.ob y v hv).1.resolve_right (by simp)
    rw [ev, ← ofL_mem, h3.ko] at h5
    have h5' : y ∈ ofL (cutW z.rs o 0) o := h5
    rw [ofL_cutW, List.take_zero] at h5'
    cases h5'
  exfalso
  obtain ⟨_, _, _, _, _, _, _, m8⟩ := h1.ma y k hk
  have m8 := m8.resolve_right (by simp)
  rw [ek, h3.ko] at m8
  have m8' : (ofL (cutW z.rs o 0) o)[k.tr.toNat - 1]? = some y := m8
  rw [ofL_cutW, List.take_zero] at m8'
  cases m8'
theorem Inv.rewind {σ : Int → Sh} {z : Ar} {B : Nat} (h : Inv σ z) (hB : AB B z) (hN : 8 * B + 16 ≤ 100000) {y : Int} {k : MkT} (hk : z.mar.get y = some k) :
    ∃ i b S, (b, k.of_, S) ∈ z.M ∧ (z.giveA k.of_ k.tr.toNat).M[i]? = some (b, k.of_, S) ∧ fitsS S k.mc k.ml k.at_ = true ∧ setTop (cutS S k.mc k.ml) k.at_ k.ob k.pd = σ y ∧ (0 ≤ k.at_ ∧ k.at_ ≤ 18446744073709551615) ∧
      Inv σ ((z.giveA k.of_ k.tr.toNat).setS i b k.of_ S (σ y) k.mc k.ml k.at_) ∧ AB (B + 1) ((z.giveA k.of_ k.tr.toNat).setS i b k.of_ S (σ y) k.mc k.ml k.at_) ∧ Less k.of_ { z with rs := cutW z.rs k.of_ k.tr.toNat } (z.giveA k.of_ k.tr.toNat) := by
  have hA := hB.ok (by omega)
  obtain ⟨⟨b, S, hq, hgr⟩, hcu, hke, ht, hobb, hpd, hk1, hpos⟩ := h.ma y k hk
  have hob := hA.hb _ hq
  dsimp only at hob
  obtain ⟨h1, h2, h3⟩ := h.giveA hB (by omega) hob k.tr.toNat
  obtain ⟨i, hi⟩ := List.getElem?_of_mem (h3.kM (b, k.of_, S) hq rfl)
  obtain ⟨g1, g2⟩ := grow_fits hgr hcu
  have e1 : fitsS S k.mc k.ml k.at_ = true := by rw [hke]; exact g1
  have e2 : setTop (cutS S k.mc k.ml) k.at_ k.ob k.pd = σ y := by rw [hke]; exact g2
  have e3 : 0 ≤ k.at_ ∧ k.at_ ≤ 18446744073709551615 := by rw [hke]; exact ht
  have e4 : 0 ≤ k.ob ∧ k.ob ≤ 18446744073709551615 := by rw [hke]; exact hobb
  have e5 : 0 ≤ k.pd ∧ k.pd ≤ 18446744073709551615 := by rw [hke]; exact hpd
  have h4 := h2.setS (by omega) hi e1 e3.1 e4 e5
  rw [e2] at h4
  refine ⟨i, b, S, hq, hi, e1, e2, e3, h1.setS (h2.ok (by omega)) hi (fun x kx hkx ekx => ?_) (fun u v hv ev => ?_), h4, h3⟩
  case refine_2 =>
    have h5 := (h1.ob u v hv).1.resolve_right (by simp)
    rw [ev, ← ofL_mem, h3.ko] at h5
    have h5' : u ∈ ofL (cutW z.rs k.of_ k.tr.toNat) k.of_ := h5
    rw [ofL_cutW] at h5'
    exact h.om y k u v hk (h3.obj u v hv) ev h5'
  have hkx0 : z.mar.get x = some kx := h3.mar x kx hkx
  obtain ⟨_, _, _, _, _, _, m7, m8⟩ := h1.ma x kx hkx
  have m8 := m8.resolve_right (by simp)
  rw [ekx, h3.ko] at m8
  have m8' : (ofL (cutW z.rs k.of_ k.tr.toNat) k.of_)[kx.tr.toNat - 1]? = some x := m8
  rw [ofL_cutW] at m8'
  have hlt := (List.getElem?_eq_some_iff.1 m8').1
  rw [List.length_take] at hlt
  exact h.pw x kx y k hkx0 hk ekx (by omega)
end Go.Proofs.YtamecmklcnohjaaGreat.Sep
namespace Go.Proofs.YtamecmklcnohjaaGreat.Sep
open Go.RowKit
set_option linter.unusedSimpArgs false
set_option linter.unusedVariables false
theorem InvP.givesTo {σ : Int → Sh} {o : Int} (ob : 0 ≤ o ∧ o ≤ 18446744073709551615) (l : List Int) {z : Ar} {B : Nat} (h : InvP (l.map fun y => (o, y)) σ z) (hB : AB (B - l.length) z) (hN : 8 * B + 8 ≤ 100000 ∧ l.length ≤ B) : ∀ k, k ≤ l.length → InvP ((l.drop k).map fun y => (o, y)) σ ((l.take k).foldl Ar.giveL z) ∧ AB (B - l.length + k) ((l.take k).foldl Ar.giveL z) := by
  intro k
  induction k with
  | zero => intro _; rw [List.take_zero, List.drop_zero]; exact ⟨h, hB⟩
  | succ k ih =>
    intro hk
    obtain ⟨h1, h2⟩ := ih (by omega)
    obtain ⟨y, hy⟩ : ∃ y, l[k]? = some y := ⟨_, List.getElem?_eq_getElem (by omega)⟩
    have hd : l.drop k = y :: l.drop (k + 1) := by
      rw [← (List.getElem?_eq_some_iff.1 hy).2]; exact List.drop_eq_getElem_cons (by omega)
    rw [hd, List.map_cons] at h1
    have hyb := h1.pb (o, y) (by simp)
    have h3 := h1.give1 (h2.ok (by omega)) (by omega) (fun q hq => by obtain ⟨u, _, rfl⟩ := List.mem_map.1 hq; rfl) ob
    have h4 := h2.giveL h1.trok (by omega) hyb.1 hyb.2
    have e : (l.take (k + 1)).foldl Ar.giveL z = ((l.take k).foldl Ar.giveL z).giveL y := by rw [List.take_add_one, hy, List.foldl_append]; rfl
    rw [e]
    exact ⟨h3.1, h4.le (by omega)⟩
set_option maxHeartbeats 8000000
attribute [local irreducible] X XE XO XD XDi XDa PV RV DV pt base Spec Sl Mp Keeps Pg Kc
attribute [local irreducible] Pgs Spc Ck XL XLi Pl Rs Rg View Tbl Tre Ros Star RgOf Arn
theorem ar_freeL (x : ABl) (z : Ar) {N : Nat} (hA : AOk N z) (hT : TrOk z) (hN : 8 * N + 8 ≤ 100000) (h : Int) (h0 : 0 ≤ h) (h1 : h ≤ 18446744073709551615) (hg : (z.reg.get h).isSome = true) :
    Spec Tryz.prog 33 [.pointer (some ⟨x.a, 0, none⟩), .int .u64 h] [Arn x z] (fun v L => v = .int .i64 0 ∧ L = [Arn x (z.freeR h)]) :=
  (ar_free x z hA hT hN h h0 h1 hg).mono fun v L ⟨z', hv, hL, hF⟩ => ⟨hv, by rw [hL, hF.eq]; rfl⟩
theorem ar_give (x : ABl) (z : Ar) {σ : Int → Sh} (hI : Inv σ z) {B : Nat} (hB : AB B z) (hN : 8 * B + 8 ≤ 100000) (of_ : Int) (ob : 0 ≤ of_ ∧ of_ ≤ 18446744073709551615) (n : Nat) : Spec Tryz.prog 97 [.pointer (some ⟨x.a, 0, none⟩), .int .u64 of_, .int .i64 n] [Arn x z] (fun v L => v = .tuple #[] ∧ L = [Arn x (z.giveA of_ n)]) := by
  have hA := hB.ok (by omega)
  have hrl := hA.rl
  have hol := length_ofL_le z.rs of_
  have hll : ((ofL z.rs of_).drop n).reverse.length ≤ B := by rw [List.length_reverse, List.length_drop]; omega
  have hbl : ∀ y ∈ ((ofL z.rs of_).drop n).reverse, 0 ≤ y ∧ y ≤ 18446744073709551615 := fun y hy => hA.rb _ (ofL_val _ _ _ (List.mem_of_mem_drop (List.mem_reverse.1 hy)))
  have hst := InvP.givesTo ob ((ofL z.rs of_).drop n).reverse (hI.cut hA of_ n) (by rw [List.length_reverse]; exact hB.cut of_ n) ⟨by omega, hll⟩
  refine Spec.intro (IsEnt.out) Tryz.func97 rfl Tryz.ntmps97 (by simp) (fun w0 F => ?_)
  simp only [envOf, List.zipIdx, List.map, List.cons_append, List.nil_append, Nat.zero_add, Nat.reduceAdd]
  refine X_open (A := Arn x z) (by exact FDs) Arn.open ?_
  rintro ⟨⟩ -
  dsimp only [List.cons_append, List.nil_append]
  (repeat refine Z ?_)
  refine XO_call (ros_cut x.rr z.rs of_ n (by omega) (by omega)) (hk := ?_)
  rintro _ _ ⟨ca, cc, rfl, rfl⟩
  rw [Int.toNat_natCast]
  unfold Ar.giveA
  generalize ((ofL z.rs of_).drop n).reverse = l at hll hbl hst ⊢
  refine XO_fold (by exact FAs) (Arn.fold (x := x) (z := { z with rs := cutW z.rs of_ n })) ?_
  generalize ({ z with rs := cutW z.rs of_ n } : Ar) = zc at hst ⊢
  (repeat refine Z ?_)
  refine X_loop (ι := Nat) (fun k => k ≤ l.length) (fun k => [(0, .pointer (some ⟨x.a, 0, none⟩)), (18, .slice ca l.length cc), (19, .int .i64 (l.length : Int)), (20, .int .i64 (k : Int))]) (fun k => [Arn x ((l.take k).foldl Ar.giveL zc), Sl (eI .u64) ca cc l] ++ F) (fun k => l.length - k) 0 (Nat.zero_le _) ?_ (by exact EN) ?_
  · exact SBs
  intro k hk
  dsimp only
  (repeat refine Z ?_)
  refine X_cond rfl (fun hc => ?_) (fun hc => ?_) <;> simp only [decide_eq_true_eq, decide_eq_false_iff_not] at hc
  · have hkl : k < l.length := by omega
    have hget : l[k]? = some l[k] := List.getElem?_eq_getElem hkl
    have htk : l.take (k + 1) = l.take k ++ [l[k]] := List.take_succ_eq_append_getElem hkl
    have hyb := hbl _ (List.getElem_mem hkl)
    obtain ⟨hIk, hBk⟩ := hst k (by omega)
    have hAk : AOk B ((l.take k).foldl Ar.giveL zc) := (hBk.ok (by omega)).le (by omega) (by omega)
    have hTk := hIk.trok
    generalize l[k] = y at hget htk hyb
    have hfk : (l.take (k + 1)).foldl Ar.giveL zc = ((l.take k).foldl Ar.giveL zc).giveL y := by rw [htk, List.foldl_append]; rfl
    generalize (l.take k).foldl Ar.giveL zc = zk at hAk hTk hfk ⊢
    clear hIk hBk
    refine X_slopen (E' := eI .u64) (a := ca) (c := cc) (xs := l) (by exact FDs) (by omega) ?_
    rintro qb qo rfl
    (repeat refine Z ?_)
    refine XO_call (unpack_spec y hyb.1 hyb.2) (hk := ?_)
    rintro _ _ ⟨rfl, rfl⟩
    unfold unpV
    by_cases hk0 : hKind y = 0
    · have hgy : zk.giveL y = { zk with mar := zk.mar.drop ⟨0, 0, 0, 0, 0, 0, 0⟩ y } := by unfold Ar.giveL; rw [if_neg (by omega)]; unfold Ar.giveH; rw [if_neg (by omega), if_neg (by omega)]
      rw [if_pos hk0]
      (repeat refine Z ?_)
      refine X_cond rfl (fun h => by cases h) (fun _ => ?_)
      (repeat refine Z ?_)
      refine X_cond rfl (fun h => by cases h) (fun _ => ?_)
      refine X_open (A := Arn x zk) (by exact FDs) Arn.open ?_
      rintro ⟨⟩ -
      dsimp only [List.cons_append, List.nil_append]
      (repeat refine Z ?_)
      refine XO_call (tdropM x.mt zk.mar hAk.mr y hyb.1 hyb.2) (hk := ?_)
      rintro _ _ ⟨rfl, rfl⟩
      (repeat refine Z ?_)
      refine XE_fold (by exact FAs) (Arn.fold (x := x) (z := { zk with mar := zk.mar.drop ⟨0, 0, 0, 0, 0, 0, 0⟩ y })) ?_
      rw [← hgy, ← hfk]
      exact X_round (k + 1) (by show k + 1 ≤ l.length; omega) (by show l.length - (k + 1) < l.length - k; omega) (by exact SBs) (by exact EN)
    rw [if_neg hk0]
    (repeat refine Z ?_)
    refine X_cond rfl (fun h1 => ?_) (fun h1 => ?_) <;> simp only [beq_iff_eq, beq_eq_false_iff_ne, ne_eq] at h1
    · by_cases hl : (zk.reg.get y).isSome = true
      · have hgy : zk.giveL y = zk.freeR y := by unfold Ar.giveL; rw [if_pos h1, if_pos hl]
        (repeat refine Z ?_)
        refine XO_call (ar_freeL x zk hAk hTk (by omega) y hyb.1 hyb.2 hl) (hk := ?_)
        rintro _ _ ⟨rfl, rfl⟩
        (repeat refine Z ?_)
        rw [← hgy, ← hfk]
        exact X_round (k + 1) (by show k + 1 ≤ l.length; omega) (by show l.length - (k + 1) < l.length - k; omega) (by exact SBs) (by exact EN)
      · have hgy : zk.giveL y = zk := by unfold Ar.giveL; rw [if_pos h1, if_neg hl]
        have hno : zk.reg.get y = none := by
          cases hc2 : zk.reg.get y with
          | none => rfl
          | some v => rw [hc2] at hl; exact absurd rfl hl
        (repeat refine Z ?_)
        refine XO_call (ar_free_no x zk hAk.w y hyb.1 hyb.2 hno) (hk := ?_)
        rintro _ _ ⟨rfl, rfl⟩
        (repeat refine Z ?_)
        rw [show zk = (l.take (k + 1)).foldl Ar.giveL zc from by rw [hfk, hgy]]
        exact X_round (k + 1) (by show k + 1 ≤ l.length; omega) (by show l.length - (k + 1) < l.length - k; omega) (by exact SBs) (by exact EN)
    (repeat refine Z ?_)
    refine X_cond rfl (fun h2 => ?_) (fun h2 => ?_) <;> simp only [beq_iff_eq, beq_eq_false_iff_ne, ne_eq] at h2
    · have hgy : zk.giveL y = { zk with obj := zk.obj.drop (0, 0, 0) y } := by unfold Ar.giveL; rw [if_neg h1]; unfold Ar.giveH; rw [if_neg h1, if_pos h2]
      refine X_open (A := Arn x zk) (by exact FDs) Arn.open ?_
      rintro ⟨⟩ -
      dsimp only [List.cons_append, List.nil_append]
      (repeat refine Z ?_)
      refine XO_call (tdropO x.ot zk.obj hAk.ob y hyb.1 hyb.2) (hk := ?_)
      rintro _ _ ⟨rfl, rfl⟩
      (repeat refine Z ?_)
      refine XE_fold (by exact FAs) (Arn.fold (x := x) (z := { zk with obj := zk.obj.drop (0, 0, 0) y })) ?_
      rw [← hgy, ← hfk]
      exact X_round (k + 1) (by show k + 1 ≤ l.length; omega) (by show l.length - (k + 1) < l.length - k; omega) (by exact SBs) (by exact EN)
    · have hgy : zk.giveL y = { zk with mar := zk.mar.drop ⟨0, 0, 0, 0, 0, 0, 0⟩ y } := by unfold Ar.giveL; rw [if_neg h1]; unfold Ar.giveH; rw [if_neg h1, if_neg h2]
      refine X_open (A := Arn x zk) (by exact FDs) Arn.open ?_
      rintro ⟨⟩ -
      dsimp only [List.cons_append, List.nil_append]
      (repeat refine Z ?_)
      refine XO_call (tdropM x.mt zk.mar hAk.mr y hyb.1 hyb.2) (hk := ?_)
      rintro _ _ ⟨rfl, rfl⟩
      (repeat refine Z ?_)
      refine XE_fold (by exact FAs) (Arn.fold (x := x) (z := { zk with mar := zk.mar.drop ⟨0, 0, 0, 0, 0, 0, 0⟩ y })) ?_
      rw [← hgy, ← hfk]
      exact X_round (k + 1) (by show k + 1 ≤ l.length; omega) (by show l.length - (k + 1) < l.length - k; omega) (by exact SBs) (by exact EN)
  obtain rfl : k = l.length := by omega
  rw [List.take_length]
  (repeat refine Z ?_)
  refine XE_ret (.inr rfl) (tells_tmps rfl rfl) ⟨_, ⟨rfl, rfl⟩, by exact EN⟩
theorem ar_rewind (x : ABl) (z : Ar) {σ : Int → Sh} (hI : Inv σ z) {B : Nat} (hB : AB B z) (hN : 8 * B + 16 ≤ 100000) (h : Int) (h0 : 0 ≤ h) (h1 : h ≤ 18446744073709551615) {k : MkT} (hg : z.mar.get h = some k) {i b : Nat} {S : Sh} (hi : (z.giveA k.of_ k.tr.toNat).M[i]? = some (b, k.of_, S)) (hf : fitsS S k.mc k.ml k.at_ = true) (hset : setTop (cutS S k.mc k.ml) k.at_ k.ob k.pd = σ h) (ha : 0 ≤ k.at_ ∧ k.at_ ≤ 18446744073709551615) :
    Spec Tryz.prog 37 [.pointer (some ⟨x.a, 0, none⟩), .int .u64 h] [Arn x z] (fun v L => v = .int .i64 0 ∧ L = [Arn x ((z.giveA k.of_ k.tr.toNat).setS i b k.of_ S (σ h) k.mc k.ml k.at_)]) := by
  have hA := hB.ok (by omega)
  obtain ⟨⟨b0, S0, hq0, -⟩, -, -, -, -, -, hk1, -⟩ := hI.ma h k hg
  have hob := hA.hb _ hq0
  dsimp only at hob
  obtain ⟨hI1, hB1, hL1⟩ := hI.giveA hB (by omega) hob k.tr.toNat
  have hgg := ar_give x z hI hB (by omega) k.of_ hob k.tr.toNat
  rw [show ((k.tr.toNat : Nat) : Int) = k.tr from by omega] at hgg
  have ha0 := ha.1
  have ha1 := ha.2
  have hAg := hB1.ok (by omega)
  generalize z.giveA k.of_ k.tr.toNat = zg at hi hI1 hB1 hL1 hgg hAg ⊢
  have hgo := hAg.own _ (List.mem_of_getElem? hi)
  have hR := hAg.R.one hi
  have hil : i < zg.M.length := (List.getElem?_eq_some_iff.1 hi).1
  dsimp only at hgo hR
  refine Spec.intro (IsEnt.out) Tryz.func37 rfl Tryz.ntmps37 (by simp) (fun w0 F => ?_)
  simp only [envOf, List.zipIdx, List.map, List.cons_append, List.nil_append, Nat.zero_add, Nat.reduceAdd]
  (repeat refine Z ?_)
  refine X_cond rfl (fun h => by cases h) (fun _ => ?_)
  refine X_open (A := Arn x z) (by exact FDs) Arn.open ?_
  rintro ⟨⟩ -
  dsimp only [List.cons_append, List.nil_append]
  (repeat refine Z ?_)
  refine XO_call (tgetM x.mt z.mar hA.mr h h0 h1) (hk := ?_)
  rintro _ _ ⟨rfl, rfl⟩
  rw [hg]
  dsimp only [Option.getD, Option.isSome]
  refine XO_fold (by exact FAs) (Arn.fold (x := x) (z := z)) ?_
  (repeat refine Z ?_)
  refine XO_dv dv_alloc (hk := ?_)
  rintro _ _ ⟨kb, rfl, rfl⟩
  refine XO_dv0 (dv_storeW (vs := mkRow k)) (hk := ?_)
  rintro _ _ rfl
  (repeat refine Z ?_)
  refine X_cond rfl (fun h => by cases h) (fun _ => ?_)
  (repeat refine Z ?_)
  refine XO_call hgg (hk := ?_)
  rintro _ _ ⟨rfl, rfl⟩
  (repeat refine Z ?_)
  refine XO_call (ar_region x zg hAg.w k.of_ hob.1 hob.2) (hk := ?_)
  rintro _ _ ⟨rfl, rfl⟩
  rw [hgo]
  (repeat refine Z ?_)
  refine XO_open (A := Arn x zg) (by exact FDs) Arn.open ?_
  rintro ⟨⟩ -
  dsimp only [arL, List.cons_append, List.nil_append]
  refine XO_open (A := Star (RgOf x.s) zg.M) (by exact FDs) (Rgs.out hi) ?_
  rintro ⟨⟩ -
  dsimp only [List.cons_append, List.nil_append]
  (repeat refine Z ?_)
  refine XO_call (rrew_ok b x.s x.sb (mc := k.mc) (ml := k.ml) (at_ := k.at_) (ob := k.ob) (pd := k.pd) hR hf ha0 ha1) (hk := ?_)
  rintro _ _ ⟨rfl, rfl⟩
  (repeat refine Z ?_)
  rw [hset]
  refine XE_fold (S := [Rg b x.s k.of_ (σ h), Star (RgOf x.s) (zg.M.eraseIdx i)]) (by exact FAs) (Rgs.back hil) ?_
  refine XE_fold (by exact FAs) (Arn.fold (x := x) (z := zg.setS i b k.of_ S (σ h) k.mc k.ml k.at_)) ?_
  refine XE_ret (.inl rfl) (tells_tmps rfl rfl) ⟨_, ⟨rfl, rfl⟩, by exact EN⟩
theorem ar_reset (x : ABl) (z : Ar) {σ : Int → Sh} (hI : Inv σ z) {B : Nat} (hB : AB B z) (hN : 8 * B + 16 ≤ 100000) (h : Int) {b : Nat} {S : Sh} (hq : (b, h, S) ∈ z.M) {i : Nat} (hi : (z.giveA h 0).M[i]? = some (b, h, S)) :
    Spec Tryz.prog 44 [.pointer (some ⟨x.a, 0, none⟩), .int .u64 h] [Arn x z] (fun v L => v = .int .i64 0 ∧ L = [Arn x ((z.giveA h 0).setS i b h S emptySh 0 0 0)]) := by
  have hA := hB.ok (by omega)
  have hob := hA.hb _ hq
  have hgo0 := hA.own _ hq
  dsimp only at hob hgo0
  obtain ⟨hI1, hB1, hL1⟩ := hI.giveA hB (by omega) hob 0
  have hgg := ar_give x z hI hB (by omega) h hob 0
  rw [show ((0 : Nat) : Int) = 0 from rfl] at hgg
  have hAg := hB1.ok (by omega)
  generalize z.giveA h 0 = zg at hi hI1 hB1 hL1 hgg hAg ⊢
  have hR := hAg.R.one hi
  have hil : i < zg.M.length := (List.getElem?_eq_some_iff.1 hi).1
  dsimp only at hR
  refine Spec.intro (IsEnt.out) Tryz.func44 rfl Tryz.ntmps44 (by simp) (fun w0 F => ?_)
  simp only [envOf, List.zipIdx, List.map, List.cons_append, List.nil_append, Nat.zero_add, Nat.reduceAdd]
  (repeat refine Z ?_)
  refine XO_call (ar_region x z hA.w h hob.1 hob.2) (hk := ?_)
  rintro _ _ ⟨rfl, rfl⟩
  rw [hgo0]
  (repeat refine Z ?_)
  refine X_cond rfl (fun h => by cases h) (fun _ => ?_)
  (repeat refine Z ?_)
  refine XO_call hgg (hk := ?_)
  rintro _ _ ⟨rfl, rfl⟩
  refine XO_nil ?_
  refine XE_code ?_
  refine X_open (A := Arn x zg) (by exact FDs) Arn.open ?_
  rintro ⟨⟩ -
  dsimp only [List.cons_append, List.nil_append]
  refine X_open (A := Star (RgOf x.s) zg.M) (by exact FDs) (Rgs.out hi) ?_
  rintro ⟨⟩ -
  dsimp only [List.cons_append, List.nil_append]
  (repeat refine Z ?_)
  refine XO_call (rreset_spec b x.s x.sb hR) (hk := ?_)
  rintro _ _ ⟨rfl, rfl⟩
  (repeat refine Z ?_)
  refine XE_fold (S := [Rg b x.s h emptySh, Star (RgOf x.s) (zg.M.eraseIdx i)]) (by exact FAs) (Rgs.back hil) ?_
  refine XE_fold (by exact FAs) (Arn.fold (x := x) (z := zg.setS i b h S emptySh 0 0 0)) ?_
  refine XE_ret (.inl rfl) (tells_tmps rfl rfl) ⟨_, ⟨rfl, rfl⟩, by exact EN⟩
theorem ar_reset_no (x : ABl) (z : Ar) {N : Nat} (hA : AOk N z) (h : Int) (h0 : 0 ≤ h) (h1 : h ≤ 18446744073709551615) (hg : z.reg.get h = none) : Spec Tryz.prog 44 [.pointer (some ⟨x.a, 0, none⟩), .int .u64 h] [Arn x z] (fun v L => v = .int .i64 2 ∧ L = [Arn x z]) := by
  refine Spec.intro (IsEnt.out) Tryz.func44 rfl Tryz.ntmps44 (by simp) (fun w0 F => ?_)
  simp only [envOf, List.zipIdx, List.map, List.cons_append, List.nil_append, Nat.zero_add, Nat.reduceAdd]
  (repeat refine Z ?_)
  refine XO_call (ar_region x z hA.w h h0 h1) (hk := ?_)
  rintro _ _ ⟨rfl, rfl⟩
  rw [hg]
  (repeat refine Z ?_)
  refine X_cond rfl (fun _ => ?_) (fun h => by cases h)
  (repeat refine Z ?_)
  refine XE_ret (.inl rfl) (tells_tmps rfl rfl) ⟨_, ⟨rfl, rfl⟩, by exact EN⟩
end Go.Proofs.YtamecmklcnohjaaGreat.Sep
namespace Go.Proofs.YtamecmklcnohjaaGreat.Sep
open Go.RowKit
set_option linter.unusedSimpArgs false
set_option linter.unusedVariables false
structure A18 where
  d : Int
  wh : Int
  h : Int
  sz : Int
  al : Int
  a : Option Addr
  c : Nat
  bs : List Int
def eA18 : E A18 := ⟨6, true, fun x => [.int .u8 x.d, .int .u8 x.wh, .int .u64 x.h, .int .u64 x.sz, .int .u64 x.al, .slice x.a x.bs.length x.c], fun _ => rfl, fun _ _ h => by simp at h; rcases h with rfl | rfl | rfl | rfl | rfl | rfl <;> rfl, by decide, fun h => by cases h⟩
structure OkA18 (W : World) (x : A18) : Prop where
  d : 0 ≤ x.d ∧ x.d ≤ 255
  wh : 0 ≤ x.wh ∧ x.wh ≤ 255
  h : 0 ≤ x.h ∧ x.h ≤ 18446744073709551615
  sz : 0 ≤ x.sz ∧ x.sz ≤ 18446744073709551615
  al : 0 ≤ x.al ∧ x.al ≤ 18446744073709551615
  V : View (base W) (eI .u8) x.a x.bs
  B : Byt x.bs
  l : x.bs.length ≤ maxLen
  c : x.bs.length ≤ x.c
abbrev qI18 (k : IntKind) : Nat × (List Value → Prop) := (1, fun cs => ∃ n, (Lit.int k n).wf = true ∧ cs = [.int k n])
abbrev qB18 (W : World) : Nat × (List Value → Prop) := (1, fun cs => ∃ (a : Option Addr) (c : Nat) (bs : List Int), cs = [.slice a bs.length c] ∧ View (base W) (eI .u8) a bs ∧ (∀ x ∈ bs, (Lit.int .u8 x).wf = true) ∧ bs.length ≤ maxLen ∧ bs.length ≤ c)
def aPs18 (W : World) : List (Nat × (List Value → Prop)) := [qI18 .u8, qI18 .u8, qI18 .u64, qI18 .u64, qI18 .u64, qB18 W]
theorem flat_a18 (W : World) : FlatAt Tryz.prog W 73 6 (fun cs => Parts cs (aPs18 W)) :=
  flatAt_struct Tryz.underlying73 (aPs18 W) ⟨rfl, (flatP_int Tryz.underlying5 (by kernel_rfl)).at W, rfl, (flatP_int Tryz.underlying5 (by kernel_rfl)).at W, rfl, (flatP_int Tryz.underlying32 (by kernel_rfl)).at W, rfl, (flatP_int Tryz.underlying32 (by kernel_rfl)).at W, rfl, (flatP_int Tryz.underlying32 (by kernel_rfl)).at W, rfl, flatAt_bytes Tryz.underlying56 Tryz.underlying5 (by kernel_rfl) (by kernel_rfl), trivial⟩ (by kernel_rfl)
theorem take_eq18 {cs a : List Value} {n : Nat} (h : cs.take n = a) : cs = a ++ cs.drop n := by rw [← h, List.take_append_drop]
theorem parts_a18 (W : World) (cs : List Value) (h : Parts cs (aPs18 W)) : ∃ y : A18, OkA18 W y ∧ cs = eA18.cells y := by
  obtain ⟨⟨d, w1, e1⟩, ⟨w, w2, e2⟩, ⟨hh, w3, e3⟩, ⟨sz, w4, e4⟩, ⟨al, w5, e5⟩, ⟨a, c, bs, e6, V, hb, hl, hc⟩, hn⟩ := h
  refine ⟨⟨d, w, hh, sz, al, a, c, bs⟩, ⟨wf_u8 w1, wf_u8 w2, wf_u64 w3, wf_u64 w4, wf_u64 w5, V, fun x hx => wf_u8 (hb x hx), hl, hc⟩, ?_⟩
  have f1 := take_eq18 e1
  have f2 := take_eq18 e2
  have f3 := take_eq18 e3
  have f4 := take_eq18 e4
  have f5 := take_eq18 e5
  have f6 := take_eq18 e6
  have hn' : List.drop 1 (List.drop 1 (List.drop 1 (List.drop 1 (List.drop 1 (List.drop 1 cs))))) = [] := hn
  rw [f1, f2, f3, f4, f5, f6, hn']
  rfl
def pickI (told : List Int) (x : A18) : Int := if x.h ≠ 0 ∨ told.length = 0 ∨ x.wh = 255 then x.h else told.getD (x.wh % (told.length : Int)).toNat 0
theorem pickI_bd {told : List Int} {x : A18} {W : World} (ho : OkA18 W x) (ht : ∀ y ∈ told, 0 ≤ y ∧ y ≤ 18446744073709551615) : 0 ≤ pickI told x ∧ pickI told x ≤ 18446744073709551615 := by
  unfold pickI
  split
  · exact ho.h
  · rename_i hn
    have hl : 0 < told.length := by omega
    have h0 : 0 ≤ x.wh % (told.length : Int) := Int.emod_nonneg _ (by omega)
    have h1 : x.wh % (told.length : Int) < (told.length : Int) := Int.emod_lt_of_pos _ (by omega)
    have hlt : (x.wh % (told.length : Int)).toNat < told.length := by omega
    simp only [List.getD, List.getElem?_eq_getElem hlt, Option.getD_some]
    exact ht _ (List.getElem_mem hlt)
def fewI (xs : List A18) : Prop := (∀ x ∈ xs, x.bs.length ≤ 100) ∧ xs.length ≤ 45
set_option maxHeartbeats 8000000
attribute [local irreducible] X XE XO XD XDi XDa PV RV DV pt base Spec Sl Mp Keeps Pg Kc
attribute [local irreducible] Pgs Spc Ck XL XLi Pl Rs Rg View Tbl Tre Ros Star RgOf Arn
theorem pick_spec (A : HP) (a : Option Addr) (c : Nat) (told : List Int) (x : A18) {W : World} (ho : OkA18 W x) (hV : View A (eI .u64) a told) (hl : told.length ≤ 1000000) : Spec Tryz.prog 39 [.slice a told.length c, .agg (eA18.cells x).toArray] [A] (fun v L => v = .int .u64 (pickI told x) ∧ L = [A]) := by
  have hwh := ho.wh
  refine Spec.intro (IsEnt.out) Tryz.func39 rfl Tryz.ntmps39 (by simp) (fun w0 F => ?_)
  simp only [envOf, List.zipIdx, List.map, List.cons_append, List.nil_append, Nat.zero_add, Nat.reduceAdd]
  (repeat refine Z ?_)
  refine XO_dv (dv_box (row := eA18.cells x)) (hk := ?_)
  rintro _ _ ⟨bx, rfl, rfl⟩
  (repeat refine Z ?_)
  refine XO_either (hT := fun h => ?_) (hF := fun h => ?_) <;> simp only [bne_iff_ne, ne_eq, bne_eq_false_iff_eq] at h
  · have e : pickI told x = x.h := by unfold pickI; rw [if_pos (.inl h)]
    rw [e]
    (repeat refine Z ?_)
    refine X_cond rfl (fun _ => ?_) (fun h => by cases h)
    (repeat refine Z ?_)
    refine XE_ret (.inl rfl) (tells_tmps rfl rfl) ⟨_, ⟨rfl, rfl⟩, by exact EN⟩
  (repeat refine Z ?_)
  refine XO_either (hT := fun h2 => ?_) (hF := fun h2 => ?_) <;> simp only [beq_iff_eq, beq_eq_false_iff_ne, ne_eq] at h2
  · have e : pickI told x = x.h := by unfold pickI; rw [if_pos (.inr (.inl (by omega)))]
    rw [e]
    (repeat refine Z ?_)
    refine X_cond rfl (fun _ => ?_) (fun h => by cases h)
    (repeat refine Z ?_)
    refine XE_ret (.inl rfl) (tells_tmps rfl rfl) ⟨_, ⟨rfl, rfl⟩, by exact EN⟩
  (repeat refine Z ?_)
  refine X_cond rfl (fun h3 => ?_) (fun h3 => ?_) <;> simp only [beq_iff_eq, beq_eq_false_iff_ne, ne_eq] at h3
  · have e : pickI told x = x.h := by unfold pickI; rw [if_pos (.inr (.inr h3))]
    rw [e]
    (repeat refine Z ?_)
    refine XE_ret (.inl rfl) (tells_tmps rfl rfl) ⟨_, ⟨rfl, rfl⟩, by exact EN⟩
  have hl0 : 0 < told.length := by omega
  have h0 : 0 ≤ x.wh % (told.length : Int) := Int.emod_nonneg _ (by omega)
  have h1 : x.wh % (told.length : Int) < (told.length : Int) := Int.emod_lt_of_pos _ (by omega)
  have hlt : (x.wh % (told.length : Int)).toNat < told.length := by omega
  obtain ⟨y, hget⟩ : ∃ y, told[(x.wh % (told.length : Int)).toNat]? = some y := ⟨_, List.getElem?_eq_getElem hlt⟩
  have e : pickI told x = y := by unfold pickI; rw [if_neg (by omega)]; simp [List.getD, hget]
  rw [e]
  refine X_view (A := A) (by exact FDs) hV hl0 ?_
  rintro tb to rfl
  (repeat refine Z ?_)
  refine XE_ret (.inl rfl) (tells_tmps rfl rfl) ⟨_, ⟨rfl, rfl⟩, by exact EN⟩
theorem few_spec (a : Option Addr) (c : Nat) (xs : List A18) (W : World) (ho : ∀ x ∈ xs, OkA18 W x) (hV : View (base W) eA18 a xs) (hl : xs.length ≤ maxLen) : Spec Tryz.prog 38 [.slice a xs.length c] [base W] (fun v L => ∃ b, v = .bool b ∧ L = [base W] ∧ (b = true → fewI xs)) := by
  have hml : xs.length ≤ 9223372036854775807 := Nat.le_trans hl (by decide)
  refine Spec.intro (IsEnt.out) Tryz.func38 rfl Tryz.ntmps38 (by simp) (fun w0 F => ?_)
  simp only [envOf, List.zipIdx, List.map, List.cons_append, List.nil_append, Nat.zero_add, Nat.reduceAdd]
  (repeat refine Z ?_)
  refine X_loop (ι := Nat) (fun k => k ≤ xs.length ∧ ∀ j (hj : j < xs.length), j < k → xs[j].bs.length ≤ 100) (fun k => [(0, .slice a xs.length c), (3, .int .i64 k)]) (fun _ => base W :: F) (fun k => xs.length - k) 0 ⟨Nat.zero_le _, fun _ _ h => by omega⟩ ?_ (by exact EN) ?_
  · exact SBs
  rintro k ⟨hk, hall⟩
  dsimp only at hk hall ⊢
  (repeat refine Z ?_)
  refine X_cond rfl (fun hc => ?_) (fun hc => ?_) <;> simp only [decide_eq_true_eq, decide_eq_false_iff_not] at hc
  · have hkl : k < xs.length := by omega
    have hok := ho _ (List.getElem_mem hkl)
    have hget : xs[(k : Int).toNat]? = some xs[k] := by simp
    have hrest : xs[k].bs.length ≤ 100 → ∀ j (hj : j < xs.length), j < k + 1 → xs[j].bs.length ≤ 100 := fun h1 j hj hlt => by
      rcases Nat.lt_or_ge j k with h | h
      · exact hall j hj h
      · obtain rfl : j = k := by omega
        exact h1
    generalize xs[k] = x at hok hget hrest
    refine X_view (A := base W) (by exact FDs) hV (by omega) ?_
    rintro vb vo rfl
    (repeat refine Z ?_)
    refine XO_either (hT := fun h => ?_) (hF := fun h => ?_) <;> simp only [decide_eq_true_eq, decide_eq_false_iff_not] at h
    · (repeat refine Z ?_)
      refine X_cond rfl (fun _ => ?_) (fun h => by cases h)
      (repeat refine Z ?_)
      refine XE_ret (.inl rfl) (tells_tmps rfl rfl) ⟨_, ⟨false, rfl, rfl, fun h => by cases h⟩, by exact EN⟩
    (repeat refine Z ?_)
    refine XO_either (hT := fun h2 => ?_) (hF := fun h2 => ?_)
    · (repeat refine Z ?_)
      refine XO_either (hT := fun h3 => ?_) (hF := fun h3 => ?_)
      · (repeat refine Z ?_)
        refine X_cond rfl (fun _ => ?_) (fun _ => ?_)
        · (repeat refine Z ?_)
          refine XE_ret (.inl rfl) (tells_tmps rfl rfl) ⟨_, ⟨false, rfl, rfl, fun h => by cases h⟩, by exact EN⟩
        · (repeat refine Z ?_)
          refine X_round (k + 1) ⟨by omega, hrest (by omega)⟩ (by show xs.length - (k + 1) < xs.length - k; omega) (by exact SBs) (by exact EN)
      · (repeat refine Z ?_)
        refine X_cond rfl (fun h => by cases h) (fun _ => ?_)
        (repeat refine Z ?_)
        refine X_round (k + 1) ⟨by omega, hrest (by omega)⟩ (by show xs.length - (k + 1) < xs.length - k; omega) (by exact SBs) (by exact EN)
    · (repeat refine Z ?_)
      refine X_cond rfl (fun h => by cases h) (fun _ => ?_)
      (repeat refine Z ?_)
      refine X_round (k + 1) ⟨by omega, hrest (by omega)⟩ (by show xs.length - (k + 1) < xs.length - k; omega) (by exact SBs) (by exact EN)
  obtain rfl : k = xs.length := by omega
  (repeat refine Z ?_)
  refine XE_ret (.inl rfl) (tells_tmps rfl rfl) ⟨_, ⟨_, rfl, rfl, fun h => ⟨fun x hx => ?_, ?_⟩⟩, by exact EN⟩
  · obtain ⟨j, hj, rfl⟩ := List.getElem_of_mem hx
    exact hall j hj hj
  · have := of_decide_eq_true h
    omega
end Go.Proofs.YtamecmklcnohjaaGreat.Sep
namespace Go.Proofs.YtamecmklcnohjaaGreat.Sep
open Go.RowKit
set_option linter.unusedSimpArgs false
set_option linter.unusedVariables false
set_option maxHeartbeats 8000000
attribute [local irreducible] X XE XO XD XDi XDa PV RV DV pt base Spec Sl Mp Keeps Pg Kc
attribute [local irreducible] Pgs Spc Ck XL XLi Pl Rs Rg View Tbl Tre Ros Star RgOf Arn
theorem ar_rewind_no (x : ABl) (z : Ar) {N : Nat} (hA : AOk N z) (h : Int) (h0 : 0 ≤ h) (h1 : h ≤ 18446744073709551615) (hg : z.mar.get h = none) : Spec Tryz.prog 37 [.pointer (some ⟨x.a, 0, none⟩), .int .u64 h] [Arn x z] (fun v L => v = .int .i64 2 ∧ L = [Arn x z]) := by
  refine Spec.intro (IsEnt.out) Tryz.func37 rfl Tryz.ntmps37 (by simp) (fun w0 F => ?_)
  simp only [envOf, List.zipIdx, List.map, List.cons_append, List.nil_append, Nat.zero_add, Nat.reduceAdd]
  (repeat refine Z ?_)
  refine X_cond rfl (fun h => by cases h) (fun _ => ?_)
  refine X_open (A := Arn x z) (by exact FDs) Arn.open ?_
  rintro ⟨⟩ -
  dsimp only [List.cons_append, List.nil_append]
  (repeat refine Z ?_)
  refine XO_call (tgetM x.mt z.mar hA.mr h h0 h1) (hk := ?_)
  rintro _ _ ⟨rfl, rfl⟩
  rw [hg]
  dsimp only [Option.getD, Option.isSome]
  refine XO_fold (by exact FAs) (Arn.fold (x := x) (z := z)) ?_
  (repeat refine Z ?_)
  refine XO_dv dv_alloc (hk := ?_)
  rintro _ _ ⟨kb, rfl, rfl⟩
  refine XO_dv0 (dv_storeW (vs := mkRow ⟨0, 0, 0, 0, 0, 0, 0⟩)) (hk := ?_)
  rintro _ _ rfl
  (repeat refine Z ?_)
  refine X_cond rfl (fun _ => ?_) (fun h => by cases h)
  (repeat refine Z ?_)
  refine XE_ret (.inl rfl) (tells_tmps rfl rfl) ⟨_, ⟨rfl, rfl⟩, by exact EN⟩
end Go.Proofs.YtamecmklcnohjaaGreat.Sep
