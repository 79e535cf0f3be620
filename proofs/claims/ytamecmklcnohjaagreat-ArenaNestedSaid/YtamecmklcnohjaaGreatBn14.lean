import Derived.Test.YtamecmklcnohjaaGreatBn12
import Derived.Test.YtamecmklcnohjaaGreatBn13
import Derived.Test.YtamecmklcnohjaaGreatBn4
import Derived.Deep.Grids
/- What the laws share: a separation logic over the model, and what the program's functions do, by it. Part 14 of 14: Old ArC ArF Nest RowV. -/
namespace Go.Proofs.YtamecmklcnohjaaGreat.Sep
open Go.RowKit
set_option linter.unusedSimpArgs false
set_option linter.unusedVariables false
/-! handles that were told once: a new one is none of them; sums over all regions -/
section
variable {α : Type}
def Tb.Old (t : Tb α) (h : Int) : Prop := (hSlot h).toNat < t.slots.length ∧ (hGen h < t.genAt (hSlot h).toNat ∨ (hGen h = t.genAt (hSlot h).toNat ∧ t.usedAt (hSlot h).toNat = true))
theorem Tb.Old.of_get {t : Tb α} {h : Int} (hs : (t.get h).isSome = true) : t.Old h := by
  obtain ⟨v, hv⟩ := Option.isSome_iff_exists.1 hs
  obtain ⟨i, hi, _⟩ := Tb.get_some hv
  obtain ⟨_, hu, _, hg, hsl, hl⟩ := Tb.spot_some hi
  exact ⟨by rw [hsl]; exact hl, .inr ⟨by rw [hsl]; exact hg, by rw [hsl]; exact hu⟩⟩
theorem Tb.Old.add {N : Nat} {t : Tb α} (ht : TbOk N t) (v : α) {h : Int} (ho : t.Old h) : (t.add v).Old h := by
  have hl : t.slots.length ≤ (t.add v).slots.length := by
    unfold Tb.add
    cases hl : t.free.getLast? with
    | none => simp
    | some i => simp
  obtain ⟨h1, h2⟩ := ho
  refine ⟨Nat.lt_of_lt_of_le h1 hl, ?_⟩
  rw [Tb.add_gen ht v, Tb.add_used ht v]
  rcases h2 with h2 | ⟨h2, h3⟩
  · exact .inl h2
  · refine .inr ⟨h2, ?_⟩
    split
    · rfl
    · exact h3
theorem Tb.Old.put {t : Tb α} (y : Int) (v : α) {h : Int} (ho : t.Old h) : (t.put y v).Old h := by
  have hp := Tb.put_parts (t := t) (y := y) (v := v) (hSlot h).toNat
  unfold Tb.Old
  rw [hp.1, hp.2.1, hp.2.2.2.1]
  exact ho
theorem Tb.Old.drop {N : Nat} {t : Tb α} (ht : TbOk N t) (d : α) (y : Int) {h : Int} (ho : t.Old h) : (t.drop d y).Old h := by
  cases hs : t.spot y with
  | none =>
    have e : t.drop d y = t := by unfold Tb.drop; rw [hs]
    rw [e]; exact ho
  | some i =>
    have hp := Tb.drop_parts (d := d) hs (hSlot h).toNat
    obtain ⟨h1, h2⟩ := ho
    refine ⟨by rw [hp.2.2.2.1]; exact h1, ?_⟩
    rw [hp.1, hp.2.1]
    by_cases e : (hSlot h).toNat = i
    · rw [if_pos e, if_pos e]
      have hg := ht.gen i
      have hN := ht.hN
      left
      have : nextI (t.genAt i) = t.genAt i + 1 := by unfold nextI; rw [if_pos ⟨hg.1, by omega⟩]
      rw [this]
      rw [e] at h2
      omega
    · rw [if_neg e, if_neg e]; exact h2
theorem Tb.Old.addH {N : Nat} {t : Tb α} (ht : TbOk N t) (v : α) : (t.add v).Old t.addH := by
  have hp := Tb.addH_parts ht
  have hu : (t.add v).usedAt t.nx = true := by rw [Tb.add_used ht v, if_pos rfl]
  refine ⟨by rw [hp.2.1]; exact Tb.usedAt_lt hu, .inr ⟨?_, by rw [hp.2.1]; exact hu⟩⟩
  rw [hp.2.1, Tb.add_gen ht v, hp.2.2]
theorem Tb.Old.ne {N : Nat} {t : Tb α} (ht : TbOk N t) {h : Int} (ho : t.Old h) : h ≠ t.addH := by
  rintro rfl
  have hp := Tb.addH_parts ht
  obtain ⟨_, h2⟩ := ho
  rw [hp.2.1, hp.2.2] at h2
  rcases h2 with h2 | ⟨_, h2⟩
  · omega
  · rw [Tb.nx_unused ht] at h2; cases h2
/-- All handles that are live. -/
theorem Tb.to_mem {t : Tb α} {i : Nat} (hu : t.usedAt i = true) : ∀ {k : Nat}, i < k → t.hAt i ∈ t.handlesTo k
  | 0, h => by omega
  | k + 1, h => by
    unfold Tb.handlesTo
    rcases Nat.lt_or_ge i k with h1 | h1
    · exact List.mem_append.2 (.inl (Tb.to_mem hu h1))
    · obtain rfl : i = k := by omega
      rw [if_pos hu]; simp
theorem Tb.handles_iff {N : Nat} {t : Tb α} (ht : TbOk N t) {x : Int} : x ∈ t.handles ↔ (t.get x).isSome = true := by
  constructor
  · intro h
    obtain ⟨i, hi, _⟩ := Tb.handles_mem ht h
    obtain ⟨v, hv, _⟩ := Tb.spot_get hi
    rw [hv]; rfl
  · intro h
    obtain ⟨v, hv⟩ := Option.isSome_iff_exists.1 h
    obtain ⟨i, hi, _⟩ := Tb.get_some hv
    have hi2 := hi
    obtain ⟨hk0, hu, hkk, hg, hsl, hl⟩ := Tb.spot_some hi
    have hx : t.hAt i = x := by
      rcases Tb.get_hok ht hi2 with h1 | h1 | h1
      · exact h1
      · exfalso
        have hkd := ht.kd
        unfold hKind at hkk hk0
        omega
      · exfalso
        have hkd := ht.kd
        unfold hKind at hkk hk0
        omega
    rw [← hx]
    exact Tb.to_mem hu hl
theorem Tb.hAt_inj {N : Nat} {t : Tb α} (ht : TbOk N t) {i j : Nat} (hi : i < t.slots.length) (hj : j < t.slots.length) (h : t.hAt i = t.hAt j) : i = j := by
  have h1 := pack_slot (ht.hok (Nat.le_of_lt (Nat.lt_of_lt_of_le hi ht.len)))
  have h2 := pack_slot (ht.hok (Nat.le_of_lt (Nat.lt_of_lt_of_le hj ht.len)))
  have e : packI t.kind i (t.genAt i) = packI t.kind j (t.genAt j) := h
  rw [e, h2] at h1
  omega
theorem Tb.to_nodup {N : Nat} {t : Tb α} (ht : TbOk N t) : ∀ {k : Nat}, k ≤ t.slots.length → (t.handlesTo k).Nodup
  | 0, _ => by unfold Tb.handlesTo; exact List.nodup_nil
  | k + 1, h => by
    unfold Tb.handlesTo
    rw [List.nodup_append]
    refine ⟨Tb.to_nodup ht (by omega), by split <;> simp, fun a ha b hb e => ?_⟩
    by_cases hu : t.usedAt k = true
    · rw [if_pos hu] at hb
      simp at hb
      subst hb; subst e
      obtain ⟨i, hi, _, he⟩ := Tb.mem_to ha
      have := Tb.hAt_inj ht (by omega) (by omega) he
      omega
    · rw [if_neg hu] at hb; cases hb
theorem Tb.handles_nodup {N : Nat} {t : Tb α} (ht : TbOk N t) : t.handles.Nodup := Tb.to_nodup ht (Nat.le_refl _)
end
theorem sum_perm {l k : List Int} (h : l.Perm k) : l.sum = k.sum := by
  induction h with
  | nil => rfl
  | cons x _ ih => simp [ih]
  | swap x y l => simp; omega
  | trans _ _ h1 h2 => exact h1.trans h2
theorem perm_of_nodup : ∀ {l k : List Int}, l.Nodup → k.Nodup → (∀ x, x ∈ l ↔ x ∈ k) → l.Perm k
  | [], k, _, _, h => by
    cases k with
    | nil => exact List.Perm.nil
    | cons a k => exact absurd ((h a).2 (by simp)) (by simp)
  | a :: l, k, hl, hk, h => by
    have ha : a ∈ k := (h a).1 (by simp)
    rw [List.nodup_cons] at hl
    refine ((perm_of_nodup hl.2 (hk.erase a) fun x => ?_).cons a).trans (List.perm_cons_erase ha).symm
    rw [hk.mem_erase_iff]
    constructor
    · intro hx
      exact ⟨fun e => hl.1 (e ▸ hx), (h x).1 (by simp [hx])⟩
    · rintro ⟨h1, h2⟩
      rcases List.mem_cons.1 ((h x).2 h2) with h3 | h3
      · exact absurd h3 h1
      · exact h3
theorem sumH_M {N : Nat} {z : Ar} (hA : AOk N z) (f : Sh → Int) : sumH f z z.reg.handles.length = (z.M.map fun q => f q.2.2).sum := by
  unfold sumH
  rw [List.take_length]
  have hp : z.reg.handles.Perm (z.M.map (·.2.1)) := by
    refine perm_of_nodup (Tb.handles_nodup hA.rg) hA.nd fun x => ?_
    rw [Tb.handles_iff hA.rg]
    constructor
    · intro h
      obtain ⟨v, hv⟩ := Option.isSome_iff_exists.1 h
      obtain ⟨i, b, S, _, hi⟩ := hA.live x v hv
      exact List.mem_map.2 ⟨_, List.mem_of_getElem? hi, rfl⟩
    · intro h
      obtain ⟨q, hq, rfl⟩ := List.mem_map.1 h
      rw [hA.own q hq]; rfl
  rw [sum_perm (hp.map fun h => f (shOf z h)), List.map_map]
  refine congrArg List.sum (List.map_congr_left fun q hq => ?_)
  show f (shOf z q.2.1) = f q.2.2
  unfold shOf
  rw [shOf_eq hA.nd hq]
end Go.Proofs.YtamecmklcnohjaaGreat.Sep
namespace Go.Proofs.YtamecmklcnohjaaGreat.Sep
open Go.RowKit
set_option linter.unusedSimpArgs false
set_option linter.unusedVariables false
/-! arenas: a region, with all below it, is given up: plainly -/
def Ar.endAt (z : Ar) (i : Nat) (g : Int) (S : Sh) : Ar := ⟨putsC z.C S 0 0, rewM z.P z.m S 0 0 0, z.P, z.reg.drop none g, z.M.eraseIdx i, (z.give0 g 0).obj, (z.give0 g 0).mar, z.tr, cutW z.rs g 0⟩
def Ar.endR (z : Ar) (g : Int) : Ar := match z.M.findIdx? (fun q => q.2.1 == g) with
  | none => z
  | some i => match z.M[i]? with
    | none => z
    | some q => z.endAt i g q.2.2
def Ar.freeR (z : Ar) (h : Int) : Ar := (ordT z.tr h).foldl Ar.endR { z with tr := dropT z.tr (ordT z.tr h) }
theorem M_ix {M : List RgT} (hn : (M.map (·.2.1)).Nodup) {i j : Nat} {q r : RgT} (hi : M[i]? = some q) (hj : M[j]? = some r) (h : q.2.1 = r.2.1) : i = j := by
  have e1 : (M.map (·.2.1))[i]? = (M.map (·.2.1))[j]? := by rw [List.getElem?_map, List.getElem?_map, hi, hj]; simp [h]
  have hil : i < (M.map (·.2.1)).length := by rw [List.length_map]; exact (List.getElem?_eq_some_iff.1 hi).1
  exact (List.getElem?_inj hil hn).1 e1
theorem Ar.endR_eq {z : Ar} (hn : (z.M.map (·.2.1)).Nodup) {i b : Nat} {g : Int} {S : Sh} (hq : z.M[i]? = some (b, g, S)) : z.endR g = z.endAt i g S := by
  have hf : z.M.findIdx? (fun q => q.2.1 == g) = some i := by
    have hil := (List.getElem?_eq_some_iff.1 hq).1
    have hiv := (List.getElem?_eq_some_iff.1 hq).2
    rw [List.findIdx?_eq_some_iff_getElem]
    refine ⟨hil, by rw [hiv]; simp, fun j hj => ?_⟩
    have hjl : j < z.M.length := by omega
    have hne : z.M[j].2.1 ≠ g := fun e => by
      have := M_ix hn (List.getElem?_eq_getElem hjl) hq e
      omega
    simpa using hne
  unfold Ar.endR
  rw [hf]
  simp only
  rw [hq]
theorem fits0 (S : Sh) : fitsS S 0 0 0 = true := by
  unfold fitsS
  rw [if_neg (by omega), if_pos rfl]
  rfl
theorem gotR_zero (g : Int) (S : Sh) : gotR g (setTop (cutS S 0 0) 0 0 0) = [] := by
  rw [gotR_setTop]
  unfold gotR cutS
  simp [plH]
theorem erase_mem {M : List RgT} (hn : (M.map (·.2.1)).Nodup) {i : Nat} {q : RgT} (hq : M[i]? = some q) {r : RgT} : r ∈ M.eraseIdx i ↔ r ∈ M ∧ r.2.1 ≠ q.2.1 := by
  have hp := perm_ix hq
  have hn2 := (hp.map (·.2.1)).nodup_iff.1 hn
  rw [List.map_cons, List.nodup_cons] at hn2
  constructor
  · intro h
    exact ⟨List.mem_of_mem_eraseIdx h, fun e => hn2.1 (e ▸ List.mem_map.2 ⟨r, h, rfl⟩)⟩
  · rintro ⟨h, hne⟩
    rcases List.mem_cons.1 (hp.mem_iff.1 h) with h1 | h1
    · exact absurd (by rw [h1]) hne
    · exact h1
theorem AOw.giveN {N : Nat} {z : Ar} (h : AOw N z) (g : Int) (hN : N + (ofL z.rs g).length ≤ 100000) : AOw (N + (ofL z.rs g).length) (z.give0 g 0) := by
  have hbl : ∀ y ∈ ((ofL z.rs g).drop 0).reverse, 0 ≤ y ∧ y ≤ 18446744073709551615 := fun y hy => h.rb _ (ofL_val _ _ _ (List.mem_of_mem_drop (List.mem_reverse.1 hy)))
  have e : ((ofL z.rs g).drop 0).reverse.length = (ofL z.rs g).length := by simp
  have := AOw.fold hbl (h.cut g 0) (by rw [e]; exact hN)
  rw [e] at this
  exact this
theorem give0_reg (z : Ar) (g : Int) : (z.give0 g 0).reg = z.reg ∧ (z.give0 g 0).M = z.M ∧ (z.give0 g 0).C = z.C ∧ (z.give0 g 0).m = z.m ∧ (z.give0 g 0).P = z.P ∧ (z.give0 g 0).tr = z.tr ∧ (z.give0 g 0).rs = cutW z.rs g 0 := fold_reg ((ofL z.rs g).drop 0).reverse { z with rs := cutW z.rs g 0 }
theorem flat_wf {T : List (Int × Int)} (h : TWf T) (g : Int) : TWf ((T.filter fun q => !(q.1 == g)).map fun q => (q.1, (0 : Int))) := by
  have hm : ∀ q ∈ (T.filter fun q => !(q.1 == g)).map (fun q => (q.1, (0 : Int))), q.2 = 0 ∧ q.1 ≠ 0 := by
    intro q hq
    obtain ⟨r, hr, rfl⟩ := List.mem_map.1 hq
    exact ⟨rfl, h.nz r (List.mem_filter.1 hr).1⟩
  refine ⟨?_, fun q hq => (hm q hq).2, fun q hq => .inl (hm q hq).1, fun q hq => by rw [(hm q hq).1]; exact fun e => (hm q hq).2 e.symm, ?_⟩
  · rw [List.map_map]
    exact h.nd.sublist (List.Sublist.map _ List.filter_sublist)
  · rw [List.pairwise_iff_forall_sublist]
    intro a b hs
    have ha := hm a (hs.subset (by simp))
    have hb := hm b (hs.subset (by simp))
    rw [ha.1]; exact fun e => hb.2 e.symm
theorem flat_keys {T : List (Int × Int)} {g x : Int} : x ∈ ((T.filter fun q => !(q.1 == g)).map fun q => (q.1, (0 : Int))).map (·.1) ↔ x ∈ T.map (·.1) ∧ x ≠ g := by
  rw [List.map_map]
  constructor
  · intro h
    obtain ⟨q, hq, rfl⟩ := List.mem_map.1 h
    have := List.mem_filter.1 hq
    exact ⟨List.mem_map.2 ⟨q, this.1, rfl⟩, by simpa using this.2⟩
  · rintro ⟨h, hne⟩
    obtain ⟨q, hq, rfl⟩ := List.mem_map.1 h
    exact List.mem_map.2 ⟨q, List.mem_filter.2 ⟨hq, by simpa using hne⟩, rfl⟩
theorem drop_kind {α : Type} (d : α) (t : Tb α) (x : Int) : (t.drop d x).kind = t.kind := by
  cases hs : t.spot x with
  | none => unfold Tb.drop; rw [hs]
  | some i => exact (Tb.drop_parts (d := d) hs 0).2.2.1
theorem AOw.endAt {N : Nat} {z : Ar} (h : AOw N z) {i b : Nat} {g : Int} {S : Sh} (hq : z.M[i]? = some (b, g, S)) (hN : N + (ofL z.rs g).length + 1 ≤ 100000) : AOw (N + (ofL z.rs g).length + 1) (z.endAt i g S) := by
  have hg := h.giveN g (by omega)
  obtain ⟨f1, f2, f3, f4, f5, f6, f7⟩ := give0_reg z g
  have hqm := List.mem_of_getElem? hq
  have hgb := h.hb _ hqm
  dsimp only at hgb
  have hR := h.R.one hq
  dsimp only at hR
  have hr := rew_inv (ob := 0) (pd := 0) hR (fits0 S) (Int.le_refl _) (by decide) (by decide)
  have hK := hr.K
  rw [gotR_zero, List.nil_append] at hK
  have hM : ∀ {r : RgT}, r ∈ z.M.eraseIdx i ↔ r ∈ z.M ∧ r.2.1 ≠ g := fun {r} => erase_mem h.nd hq
  have hdr := h.rg.drop (by omega) none g
  have hgd : ∀ x, 0 ≤ x → x ≤ 18446744073709551615 → (z.reg.drop none g).get x = if x = g then none else z.reg.get x := fun x x0 x1 => Tb.get_drop h.rg none x0 x1 hgb.1 hgb.2
  obtain ⟨T, hk⟩ := hg
  generalize hL : (ofL z.rs g).length = L at hk hN ⊢
  have hlive := h.live
  have hown := h.own
  refine ⟨(T.filter fun q => !(q.1 == g)).map fun q => (q.1, (0 : Int)), hN, ⟨hK, hr.hP, fun q hq => (h.R.S q (hM.1 hq).1).le (by omega), fun q hq => h.R.po q (hM.1 hq).1⟩, hdr.le (by omega) (by omega), hk.ob.le (by omega) (by omega), hk.mr.le (by omega) (by omega), ?_, hk.k2, hk.k3, flat_wf hk.T g, ?_, ?_, ?_, ?_, fun q hq => h.hb q (hM.1 hq).1, ?_, ?_, ?_, ?_⟩
  · have := hk.k1
    dsimp only at this
    rw [f1] at this
    exact (drop_kind none z.reg g).trans this
  · rw [List.length_map]
    have h1 := List.length_filter_le (fun q : Int × Int => !(q.1 == g)) T
    have h2 := hk.tl
    dsimp only at h2
    omega
  · have := hk.rl
    dsimp only at this
    rw [f7] at this
    exact Nat.le_succ_of_le this
  · intro x v hx
    have hx' : (z.reg.drop none g).get x = some v := hx
    obtain ⟨x0, x1⟩ := Tb.get_bd hdr hx'
    rw [hgd x x0 x1] at hx'
    by_cases he : x = g
    · rw [if_pos he] at hx'; cases hx'
    · rw [if_neg he] at hx'
      obtain ⟨j, b', S', hv, hj⟩ := hlive x v hx'
      obtain ⟨j', hj'⟩ := List.getElem?_of_mem (hM.2 ⟨List.mem_of_getElem? hj, he⟩)
      exact ⟨j', b', S', hv, hj'⟩
  · intro q hq
    have hq2 := hM.1 hq
    have hb := h.hb q hq2.1
    show (z.reg.drop none g).get q.2.1 = _
    rw [hgd _ hb.1 hb.2, if_neg hq2.2]
    exact hown q hq2.1
  · exact h.nd.sublist (List.Sublist.map _ (List.eraseIdx_sublist _ _))
  · intro x
    show x ∈ _ ↔ ((z.reg.drop none g).get x).isSome = true
    rw [flat_keys]
    have htk := hk.tk x
    dsimp only at htk
    rw [f1] at htk
    constructor
    · rintro ⟨h1, h2⟩
      have h3 := htk.1 h1
      obtain ⟨v, hv⟩ := Option.isSome_iff_exists.1 h3
      obtain ⟨x0, x1⟩ := Tb.get_bd h.rg hv
      rw [hgd x x0 x1, if_neg h2]; exact h3
    · intro h1
      obtain ⟨v, hv⟩ := Option.isSome_iff_exists.1 h1
      obtain ⟨x0, x1⟩ := Tb.get_bd hdr hv
      rw [hgd x x0 x1] at h1
      by_cases he : x = g
      · rw [if_pos he] at h1; cases h1
      · rw [if_neg he] at h1; exact ⟨htk.2 h1, he⟩
  · intro x o hx
    have := hk.pl x o hx
    dsimp only at this
    rw [f5] at this
    exact this
  · intro q hq
    have := hk.rb q
    dsimp only at this
    rw [f7] at this
    exact this hq
theorem AOw.k {N : Nat} {z : Ar} (h : AOw N z) (hT : TWf z.tr) (ht : z.tr.length ≤ N) (hk : ∀ x, x ∈ z.tr.map (·.1) ↔ (z.reg.get x).isSome) : AOk N z := by
  obtain ⟨T, h⟩ := h
  exact ⟨h.hN, h.R, h.rg, h.ob, h.mr, h.k1, h.k2, h.k3, hT, ht, h.rl, h.live, h.own, h.hb, h.nd, hk, h.pl, h.rb⟩
/-- So far these regions were ended. -/
structure FrI (N : Nat) (z0 : Ar) (pre : List Int) (z : Ar) : Prop where
  eq : z = pre.foldl Ar.endR z0
  w : ∃ n, AOw n z ∧ n + z.rs.length ≤ N + z0.rs.length + pre.length
  reg : ∀ h, 0 ≤ h → h ≤ 18446744073709551615 → z.reg.get h = if h ∈ pre then none else z0.reg.get h
  of_ : ∀ o, o ∉ pre → ofL z.rs o = ofL z0.rs o
  sub : ∀ q ∈ z.rs, q ∈ z0.rs
  M : ∀ q, q ∈ z.M ↔ q ∈ z0.M ∧ q.2.1 ∉ pre
  P : z.P = z0.P
  tr : z.tr = z0.tr
  old : ∀ h, z0.reg.Old h → z.reg.Old h
  ob : ∀ y, 0 ≤ y → y ≤ 18446744073709551615 → z.obj.get y = if (∃ g ∈ pre, y ∈ ofL z0.rs g) ∧ hKind y = 2 then none else z0.obj.get y
  ma : ∀ y, 0 ≤ y → y ≤ 18446744073709551615 → z.mar.get y = if (∃ g ∈ pre, y ∈ ofL z0.rs g) ∧ hKind y ≠ 1 ∧ hKind y ≠ 2 then none else z0.mar.get y
theorem FrI.nil {N : Nat} {z0 : Ar} (h : AOw N z0) : FrI N z0 [] z0 :=
  ⟨rfl, ⟨N, h, by simp⟩, fun h _ _ => by simp, fun _ _ => rfl, fun _ h => h, fun q => by simp, rfl, rfl, fun _ h => h, fun y _ _ => by simp, fun y _ _ => by simp⟩
theorem FrI.step {N : Nat} {z0 : Ar} {pre : List Int} {z : Ar} (h : FrI N z0 pre z) {n : Nat} (hw : AOw n z) (hn : n + z.rs.length ≤ N + z0.rs.length + pre.length) (hN : N + z0.rs.length + pre.length + 1 ≤ 100000) {i b : Nat} {g : Int} {S : Sh} (hg : g ∉ pre) (hq : z.M[i]? = some (b, g, S)) : FrI N z0 (pre ++ [g]) (z.endR g) := by
  have he := Ar.endR_eq hw.nd hq
  have hlc := length_cutW z.rs g 0
  have hgb := hw.hb _ (List.mem_of_getElem? hq)
  dsimp only at hgb
  have hbl : ∀ y ∈ ((ofL z.rs g).drop 0).reverse, 0 ≤ y ∧ y ≤ 18446744073709551615 := fun y hy => hw.rb _ (ofL_val _ _ _ (List.mem_of_mem_drop (List.mem_reverse.1 hy)))
  have hM : ∀ {r : RgT}, r ∈ z.M.eraseIdx i ↔ r ∈ z.M ∧ r.2.1 ≠ g := fun {r} => erase_mem hw.nd hq
  have hoz := h.of_ g hg
  refine ⟨?_, ⟨n + (ofL z.rs g).length + 1, ?_, ?_⟩, ?_, ?_, ?_, ?_, ?_, ?_, fun x hx => ?_, ?_, ?_⟩
  · rw [List.foldl_append, ← h.eq]; rfl
  · rw [he]; exact hw.endAt hq (by omega)
  · rw [he, List.length_append]
    show _ + (cutW z.rs g 0).length ≤ _
    simp only [List.length_cons, List.length_nil]
    omega
  · intro x x0 x1
    rw [he]
    show (z.reg.drop none g).get x = _
    rw [Tb.get_drop hw.rg none x0 x1 hgb.1 hgb.2, h.reg x x0 x1]
    by_cases h1 : x = g
    · rw [if_pos h1, if_pos (by simp [h1])]
    · rw [if_neg h1]
      by_cases h2 : x ∈ pre
      · rw [if_pos h2, if_pos (by simp [h2])]
      · rw [if_neg h2, if_neg (by simp [h1, h2])]
  · intro o ho
    rw [he]
    show ofL (cutW z.rs g 0) o = _
    have h1 : o ≠ g := fun e => ho (by simp [e])
    rw [ofL_cutW_ne _ _ _ _ h1]
    exact h.of_ o (fun e => ho (by simp [e]))
  · intro q hq
    rw [he] at hq
    exact h.sub q (cutW_sub _ _ _ q hq)
  · intro q
    rw [he]
    show q ∈ z.M.eraseIdx i ↔ _
    rw [hM, h.M q]
    simp only [List.mem_append, List.mem_singleton, not_or]
    exact ⟨fun ⟨⟨a, b⟩, c⟩ => ⟨a, b, c⟩, fun ⟨a, b, c⟩ => ⟨⟨a, b⟩, c⟩⟩
  · rw [he]; exact h.P
  · rw [he]; exact h.tr
  · rw [he]; exact (h.old x hx).drop hw.rg none g
  · intro y y0 y1
    rw [he]
    show (z.give0 g 0).obj.get y = _
    have hfo := fold_obj hbl (hw.cut g 0) (by simp; omega) y0 y1
    rw [show (z.give0 g 0) = ((ofL z.rs g).drop 0).reverse.foldl Ar.giveH { z with rs := cutW z.rs g 0 } from rfl, hfo]
    show (if y ∈ ((ofL z.rs g).drop 0).reverse ∧ hKind y = 2 then none else z.obj.get y) = _
    have hmem : y ∈ ((ofL z.rs g).drop 0).reverse ↔ y ∈ ofL z0.rs g := by rw [List.drop_zero, List.mem_reverse, hoz]
    rw [h.ob y y0 y1]
    by_cases hk : hKind y = 2
    · by_cases h1 : y ∈ ofL z0.rs g
      · rw [if_pos ⟨hmem.2 h1, hk⟩, if_pos ⟨⟨g, by simp, h1⟩, hk⟩]
      · rw [if_neg (fun e => h1 (hmem.1 e.1))]
        by_cases h2 : ∃ g ∈ pre, y ∈ ofL z0.rs g
        · obtain ⟨u, hu, hy⟩ := h2
          rw [if_pos ⟨⟨u, hu, hy⟩, hk⟩, if_pos ⟨⟨u, by simp [hu], hy⟩, hk⟩]
        · rw [if_neg (fun e => h2 e.1), if_neg (fun e => ?_)]
          obtain ⟨⟨u, hu, hy⟩, _⟩ := e
          rcases List.mem_append.1 hu with h3 | h3
          · exact h2 ⟨u, h3, hy⟩
          · rw [List.mem_singleton.1 h3] at hy; exact h1 hy
    · rw [if_neg (fun e => hk e.2), if_neg (fun e => hk e.2), if_neg (fun e => hk e.2)]
  · intro y y0 y1
    rw [he]
    show (z.give0 g 0).mar.get y = _
    have hfo := fold_mar hbl (hw.cut g 0) (by simp; omega) y0 y1
    rw [show (z.give0 g 0) = ((ofL z.rs g).drop 0).reverse.foldl Ar.giveH { z with rs := cutW z.rs g 0 } from rfl, hfo]
    show (if y ∈ ((ofL z.rs g).drop 0).reverse ∧ hKind y ≠ 1 ∧ hKind y ≠ 2 then none else z.mar.get y) = _
    have hmem : y ∈ ((ofL z.rs g).drop 0).reverse ↔ y ∈ ofL z0.rs g := by rw [List.drop_zero, List.mem_reverse, hoz]
    rw [h.ma y y0 y1]
    by_cases hk : hKind y ≠ 1 ∧ hKind y ≠ 2
    · by_cases h1 : y ∈ ofL z0.rs g
      · rw [if_pos ⟨hmem.2 h1, hk⟩, if_pos ⟨⟨g, by simp, h1⟩, hk⟩]
      · rw [if_neg (fun e => h1 (hmem.1 e.1))]
        by_cases h2 : ∃ g ∈ pre, y ∈ ofL z0.rs g
        · obtain ⟨u, hu, hy⟩ := h2
          rw [if_pos ⟨⟨u, hu, hy⟩, hk⟩, if_pos ⟨⟨u, by simp [hu], hy⟩, hk⟩]
        · rw [if_neg (fun e => h2 e.1), if_neg (fun e => ?_)]
          obtain ⟨⟨u, hu, hy⟩, _⟩ := e
          rcases List.mem_append.1 hu with h3 | h3
          · exact h2 ⟨u, h3, hy⟩
          · rw [List.mem_singleton.1 h3] at hy; exact h1 hy
    · rw [if_neg (fun e => hk e.2), if_neg (fun e => hk e.2), if_neg (fun e => hk e.2)]
end Go.Proofs.YtamecmklcnohjaaGreat.Sep
namespace Go.Proofs.YtamecmklcnohjaaGreat.Sep
open Go.RowKit
set_option linter.unusedSimpArgs false
set_option linter.unusedVariables false
/-! arenas: a region, with all below it, is given up: the walk -/
set_option maxHeartbeats 8000000
attribute [local irreducible] X XE XO XD XDi XDa PV RV DV pt base Spec Sl Mp Keeps Pg Kc
attribute [local irreducible] Pgs Spc Ck XL XLi Pl Rs Rg View Tbl Tre Ros Star RgOf Arn
theorem ar_end (x : ABl) (z : Ar) {N : Nat} (hA : AOw N z) (hN : N + N ≤ 100000) {i b : Nat} {g : Int} {S : Sh} (hq : z.M[i]? = some (b, g, S)) (hr : ∀ h ∈ ofL z.rs g, hKind h = 1 → z.reg.get h = none) (cb : Nat) :
    Spec Tryz.prog 96 [.int .u64 g, .pointer (some ⟨cb, 0, none⟩)] [pt cb (.cells [.pointer (some ⟨x.a, 0, none⟩)].toArray 57 (0, 0)), Arn x z]
      (fun v L => v = .tuple #[] ∧ L = [pt cb (.cells [.pointer (some ⟨x.a, 0, none⟩)].toArray 57 (0, 0)), Arn x (z.endR g)]) := by
  have hqm := List.mem_of_getElem? hq
  have hgb := hA.hb _ hqm
  have hgo := hA.own _ hqm
  have hR := hA.R.one hq
  have hrl := hA.rl
  have hol := length_ofL_le z.rs g
  dsimp only at hgb hgo hR
  have he := Ar.endR_eq hA.nd hq
  have hg := hA.giveN g (by omega)
  have hgg := ar_give0 x z hA hN g 0 (fun h hh => hr h (List.mem_of_mem_drop hh))
  rw [show ((0 : Nat) : Int) = 0 from rfl] at hgg
  obtain ⟨f1, f2, f3, f4, f5, f6, f7⟩ := give0_reg z g
  refine Spec.intro (IsEnt.out) Tryz.func96 rfl Tryz.ntmps96 (by simp) (fun w0 F => ?_)
  simp only [envOf, List.zipIdx, List.map, List.cons_append, List.nil_append, Nat.zero_add, Nat.reduceAdd]
  (repeat refine Z ?_)
  refine XO_call (ar_region x z hA g hgb.1 hgb.2) (hk := ?_)
  rintro _ _ ⟨rfl, rfl⟩
  rw [hgo]
  (repeat refine Z ?_)
  refine XO_call hgg (hk := ?_)
  rintro _ _ ⟨rfl, rfl⟩
  unfold Ar.endAt at he
  generalize z.give0 g 0 = zg at hg f1 f2 f3 f4 f5 f6 f7 he ⊢
  refine XO_open (A := Arn x zg) (by exact FDs) Arn.open ?_
  rintro ⟨⟩ -
  dsimp only [List.cons_append, List.nil_append]
  rw [f2, f3, f4, f5]
  refine XO_open (A := Star (RgOf x.s) z.M) (by exact FDs) (Rgs.out hq) ?_
  rintro ⟨⟩ -
  dsimp only [List.cons_append, List.nil_append]
  (repeat refine Z ?_)
  refine XO_call (rreset_spec b x.s x.sb hR) (hk := ?_)
  rintro _ _ ⟨rfl, rfl⟩
  (repeat refine Z ?_)
  refine XO_call (tdropR x.rt zg.reg hg.rg g hgb.1 hgb.2) (hk := ?_)
  rintro _ _ ⟨rfl, rfl⟩
  (repeat refine Z ?_)
  rw [f7, f1, f6]
  refine XE_fold (by exact FAs) (Arn.fold (x := x) (z := ⟨putsC z.C S 0 0, rewM z.P z.m S 0 0 0, z.P, z.reg.drop none g, z.M.eraseIdx i, zg.obj, zg.mar, z.tr, cutW z.rs g 0⟩)) ?_
  rw [← he]
  refine XE_ret (.inr rfl) (tells_tmps rfl rfl) ⟨_, ⟨rfl, rfl⟩, by exact EN⟩
/-- Which regions are in a region's trail is known to the tree. -/
def TrOk (z : Ar) : Prop := ∀ q ∈ z.rs, hKind q.2 = 1 → (z.reg.get q.2).isSome = true → (q.2, q.1) ∈ z.tr
theorem FrI.free {N : Nat} {z : Ar} (hA : AOk N z) (hT : TrOk z) {h : Int} (hid : h ∈ z.tr.map (·.1)) {k : Nat} {zk : Ar} (hF : FrI N { z with tr := dropT z.tr (ordT z.tr h) } ((ordT z.tr h).take k) zk) {g : Int} (hg : (ordT z.tr h)[k]? = some g) :
    g ∉ (ordT z.tr h).take k ∧ (∃ (i b : Nat) (S : Sh), zk.M[i]? = some (b, g, S)) ∧ ∀ y ∈ ofL zk.rs g, hKind y = 1 → zk.reg.get y = none := by
  have hnd := ordF_nd hA.T z.tr.length h
  have hgl := (List.getElem?_eq_some_iff.1 hg).1
  have hgv := (List.getElem?_eq_some_iff.1 hg).2
  have hsp : ordT z.tr h = (ordT z.tr h).take k ++ g :: (ordT z.tr h).drop (k + 1) := by
    rw [← hgv, ← List.drop_eq_getElem_cons hgl, List.take_append_drop]
  have hgn : g ∉ (ordT z.tr h).take k := by
    have hnd' : (ordT z.tr h).Nodup := hnd
    rw [hsp, List.nodup_append] at hnd'
    exact fun e => hnd'.2.2 g e g (by simp) rfl
  have hgt := ordF_in hid (List.mem_of_getElem? hg)
  have hgs := (hA.tk g).1 hgt
  obtain ⟨v, hv⟩ := Option.isSome_iff_exists.1 hgs
  obtain ⟨i, b, S, rfl, hi⟩ := hA.live g v hv
  refine ⟨hgn, ?_, fun y hy hk => ?_⟩
  · obtain ⟨j, hj⟩ := List.getElem?_of_mem ((hF.M (b, g, S)).2 ⟨List.mem_of_getElem? hi, hgn⟩)
    exact ⟨j, b, S, hj⟩
  · have hym := hF.sub _ (ofL_val _ _ _ hy)
    have hyb := hA.rb _ hym
    rw [hF.reg y hyb.1 hyb.2]
    by_cases hp : y ∈ (ordT z.tr h).take k
    · rw [if_pos hp]
    · rw [if_neg hp]
      cases hc : z.reg.get y with
      | none => rfl
      | some u =>
        exfalso
        have := hT (g, y) hym hk (by show (z.reg.get y).isSome = true; rw [hc]; rfl)
        exact hp (ordF_kids z.tr.length h (low_all hA.T h) hsp y (kids_mem.2 this))
theorem FrI.stepF {N : Nat} {z : Ar} (hA : AOk N z) (hT : TrOk z) (hN : 8 * N + 8 ≤ 100000) {h : Int} (hid : h ∈ z.tr.map (·.1)) {k : Nat} {zk : Ar} (hF : FrI N { z with tr := dropT z.tr (ordT z.tr h) } ((ordT z.tr h).take k) zk) {g : Int} (hg : (ordT z.tr h)[k]? = some g) :
    FrI N { z with tr := dropT z.tr (ordT z.tr h) } ((ordT z.tr h).take (k + 1)) (zk.endR g) := by
  obtain ⟨h1, ⟨i, b, S, hi⟩, h2⟩ := FrI.free hA hT hid hF hg
  obtain ⟨n, hw, hn⟩ := hF.w
  have hol := ordF_len hA.T (n := z.tr.length) hid
  have htl := hA.tl
  have hrl := hA.rl
  have hk : ((ordT z.tr h).take k).length ≤ (ordT z.tr h).length := by rw [List.length_take]; omega
  have e : (ordT z.tr h).length ≤ z.tr.length := hol
  dsimp only at hn
  rw [List.take_add_one, hg]
  exact hF.step hw hn (by show N + z.rs.length + _ + 1 ≤ 100000; omega) h1 hi
theorem AOk.freed {N : Nat} {z : Ar} (hA : AOk N z) (hN : 8 * N + 8 ≤ 100000) {h : Int} (hid : h ∈ z.tr.map (·.1)) {zk : Ar} (hF : FrI N { z with tr := dropT z.tr (ordT z.tr h) } (ordT z.tr h) zk) : AOk (3 * N) zk := by
  obtain ⟨n, hw, hn⟩ := hF.w
  have hol : (ordT z.tr h).length ≤ z.tr.length := ordF_len hA.T (n := z.tr.length) hid
  have htl := hA.tl
  have hrl := hA.rl
  dsimp only at hn
  have htr : zk.tr = dropT z.tr (ordT z.tr h) := hF.tr
  have hdl : (dropT z.tr (ordT z.tr h)).length ≤ z.tr.length := List.length_filter_le _ _
  refine (hw.le (N' := 3 * N) (by omega) (by omega)).k ?_ ?_ ?_
  · rw [htr]; exact hA.T.drop (low_all hA.T h)
  · rw [htr]; omega
  · intro x
    rw [htr, dropT_keys, hA.tk x]
    constructor
    · rintro ⟨h1, h2⟩
      obtain ⟨v, hv⟩ := Option.isSome_iff_exists.1 h1
      obtain ⟨x0, x1⟩ := Tb.get_bd hA.rg hv
      rw [hF.reg x x0 x1, if_neg h2]; exact h1
    · intro h1
      obtain ⟨v, hv⟩ := Option.isSome_iff_exists.1 h1
      obtain ⟨x0, x1⟩ := Tb.get_bd hw.rg hv
      rw [hF.reg x x0 x1] at h1
      by_cases h2 : x ∈ ordT z.tr h
      · rw [if_pos h2] at h1; cases h1
      · rw [if_neg h2] at h1; exact ⟨h1, h2⟩
theorem ar_free (x : ABl) (z : Ar) {N : Nat} (hA : AOk N z) (hT : TrOk z) (hN : 8 * N + 8 ≤ 100000) (h : Int) (h0 : 0 ≤ h) (h1 : h ≤ 18446744073709551615) (hg : (z.reg.get h).isSome = true) :
    Spec Tryz.prog 33 [.pointer (some ⟨x.a, 0, none⟩), .int .u64 h] [Arn x z] (fun v L => ∃ z', v = .int .i64 0 ∧ L = [Arn x z'] ∧ FrI N { z with tr := dropT z.tr (ordT z.tr h) } (ordT z.tr h) z') := by
  have hid := (hA.tk h).2 hg
  have hnz : h ≠ 0 := fun e => by
    obtain ⟨q, hq, he⟩ := List.mem_map.1 hid
    exact hA.T.nz q hq (he.trans e)
  have htl := hA.tl
  have hol : (ordT z.tr h).length ≤ z.tr.length := ordF_len hA.T (n := z.tr.length) hid
  have hG0 : 0 < (ordT z.tr h).length := List.length_pos_of_mem (ordF_self z.tr z.tr.length h)
  obtain ⟨v, hv⟩ := Option.isSome_iff_exists.1 hg
  refine Spec.intro (IsEnt.out) Tryz.func33 rfl Tryz.ntmps33 (by simp) (fun w0 F => ?_)
  simp only [envOf, List.zipIdx, List.map, List.cons_append, List.nil_append, Nat.zero_add, Nat.reduceAdd]
  (repeat refine Z ?_)
  refine XO_dv dv_box1 (hk := ?_)
  rintro _ _ ⟨cb, rfl, rfl⟩
  (repeat refine Z ?_)
  refine XO_call (ar_region x z hA.w h h0 h1) (hk := ?_)
  rintro _ _ ⟨rfl, rfl⟩
  rw [hv]
  (repeat refine Z ?_)
  refine X_cond rfl (fun h => by cases h) (fun _ => ?_)
  (repeat refine Z ?_)
  refine XO_open (A := Arn x z) (by exact FDs) Arn.open ?_
  rintro ⟨⟩ -
  dsimp only [List.cons_append, List.nil_append]
  (repeat refine Z ?_)
  refine XO_call (drop_spec x.tt z.tr hA.T h hnz hid (by omega)) (hk := ?_)
  rintro _ _ ⟨la, lc, rfl, rfl⟩
  have hF0 : FrI N { z with tr := dropT z.tr (ordT z.tr h) } ((ordT z.tr h).take 0) { z with tr := dropT z.tr (ordT z.tr h) } := by
    rw [List.take_zero]
    exact FrI.nil ⟨z.tr, hA⟩
  have hst := fun (k : Nat) (zk : Ar) (g : Int) hF hg => FrI.stepF hA hT hN hid (k := k) (zk := zk) (g := g) hF hg
  have hfr := fun (k : Nat) (zk : Ar) (g : Int) hF hg => FrI.free hA hT hid (k := k) (zk := zk) (g := g) hF hg
  refine XO_fold (by exact FAs) (Arn.fold (x := x) (z := { z with tr := dropT z.tr (ordT z.tr h) })) ?_
  have hrl : ({ z with tr := dropT z.tr (ordT z.tr h) } : Ar).rs.length ≤ N := hA.rl
  generalize ({ z with tr := dropT z.tr (ordT z.tr h) } : Ar) = z0 at hF0 hst hfr hrl ⊢
  generalize ordT z.tr h = G at hol hG0 hF0 hst hfr ⊢
  (repeat refine Z ?_)
  refine X_loop (ι := Nat × Ar) (fun i => i.1 ≤ G.length ∧ FrI N z0 (G.take i.1) i.2) (fun i => [(7, .func (.func 96) #[] #[.pointer (some ⟨cb, 0, none⟩)]), (24, .slice la G.length lc), (25, .int .i64 (G.length : Int)), (26, .int .i64 (i.1 : Int))]) (fun i => pt cb (.cells [.pointer (some ⟨x.a, 0, none⟩)].toArray 57 (0, 0)) :: Arn x i.2 :: Sl (eI .u64) la lc G :: F) (fun i => G.length - i.1) (0, z0) ⟨Nat.zero_le _, hF0⟩ ?_ (by exact EN) ?_
  · exact SBs
  rintro ⟨k, zk⟩ ⟨hk, hF⟩
  dsimp only at hk hF ⊢
  (repeat refine Z ?_)
  refine X_cond rfl (fun hc => ?_) (fun hc => ?_) <;> simp only [decide_eq_true_eq, decide_eq_false_iff_not] at hc
  · have hkl : k < G.length := by omega
    obtain ⟨g, hgg⟩ : ∃ g, G[k]? = some g := ⟨G[k], by simp [hkl]⟩
    have hget : G[(k : Int).toNat]? = some g := by rw [Int.toNat_natCast]; exact hgg
    obtain ⟨-, ⟨i, b, S, hi⟩, hdead⟩ := hfr k zk g hF hgg
    have hF2 := hst k zk g hF hgg
    obtain ⟨n, hw, hn⟩ := hF.w
    have htk : (G.take k).length ≤ G.length := by rw [List.length_take]; omega
    refine X_slopen (E' := eI .u64) (a := la) (c := lc) (xs := G) (by exact FDs) hG0 ?_
    rintro qb qo rfl
    (repeat refine Z ?_)
    refine XO_call (ar_end x zk hw (by omega) hi hdead cb) (hk := ?_)
    rintro _ _ ⟨rfl, rfl⟩
    (repeat refine Z ?_)
    exact X_round (k + 1, zk.endR g) ⟨by show k + 1 ≤ G.length; omega, hF2⟩ (by show G.length - (k + 1) < G.length - k; omega) (by exact SBs) (by exact EN)
  · obtain rfl : k = G.length := by omega
    rw [List.take_length] at hF
    (repeat refine Z ?_)
    refine XE_ret (.inl rfl) (tells_tmps rfl rfl) ⟨_, ⟨zk, rfl, rfl, hF⟩, by exact EN⟩
end Go.Proofs.YtamecmklcnohjaaGreat.Sep
namespace Go.Proofs.YtamecmklcnohjaaGreat.Sep
open Go.RowKit
set_option linter.unusedSimpArgs false
set_option linter.unusedVariables false
/-! regions, each with one object: what is there when one is given up: plainly -/
structure NR where
  r : Int
  o : Int
  p : Int
  s : Int
structure NsI (z : Ar) (L : List NR) : Prop where
  tr : z.tr = L.map fun q => (q.r, q.p)
  ob : ∀ q ∈ L, ∃ a, z.obj.get q.o = some (a, q.s, q.r)
  M : (z.M.map fun q => (q.2.1, q.2.2.obj)) = L.map fun q => (q.r, q.s)
  rs : ∀ q ∈ z.rs, (∃ r ∈ L, q = (r.r, r.o)) ∨ (∃ r ∈ L, q = (r.p, r.r))
  ro : ∀ r ∈ L, (r.r, r.o) ∈ z.rs
  kd : ∀ r ∈ L, hKind r.r = 1 ∧ hKind r.o = 2 ∧ 0 ≤ r.r ∧ r.r ≤ 18446744073709551615 ∧ 0 ≤ r.o ∧ r.o ≤ 18446744073709551615
  sz : ∀ (i : Nat) r, L[i]? = some r → r.s = (i : Int) + 1
  hw : HW z.C (L.length : Int)
  P : z.P = 200
theorem chunk_1 {size n : Int} {big : Bool} (h0 : 1 ≤ size) (h1 : size ≤ 4000) (h : chunkI size 1 = (n, big, true)) : n = 1 := by
  unfold chunkI at h
  rw [need_1 h0 (by omega)] at h
  have e : (32 + size + 4095) / 4096 = 1 := by omega
  dsimp only at h
  rw [e, if_neg (by decide), if_neg (by decide)] at h
  have e2 : cpages (cclass 1) = 1 := by decide
  rw [e2] at h
  cases h; rfl
theorem AR.room1 {P : Int} {B : Nat} {o : Int} {C C' : Co} {m m' : Mm} {s s' : Sh} {oth : List (Int × Hd)} {size at_ e H : Int} (hR : RInv P B o C m.f s oth) (h0 : 1 ≤ size) (h1 : size ≤ 4000) (hH : HW C H) (hH0 : 0 ≤ H) (hHP : H + 1 ≤ P) (h : AR P C m s o size 1 C' m' s' at_ e) : e = 0 ∧ HW C' (H + 1) ∧ s'.obj = IntKind.u64.wrap (s.obj + size) := by
  have hnb := not_bad1 h0
  have room : ∀ n big, chunkI size 1 = (n, big, true) → (getC C n).2.2 = 0 ∧ HW (getC C n).1 (H + 1) := fun n big hc => by
    obtain rfl := chunk_1 h0 h1 hc
    exact hw_get hR.K hH hH0 (by decide) (by rw [hR.hP]; omega)
  cases h with
  | bad hb => exact absurd hb hnb
  | fit q _ _ => exact ⟨rfl, hH.up (by omega), rfl⟩
  | huge _ _ hc =>
    exfalso
    unfold chunkI at hc
    rw [need_1 h0 (by omega)] at hc
    dsimp only at hc
    rw [if_neg (by omega), if_neg (by omega)] at hc
    cases hc
  | full n big _ _ hc hg => exact absurd (room n big hc).1 hg
  | big n pg _ _ hc _ => exact ⟨rfl, (room n true hc).2, rfl⟩
  | part n pg _ _ hc _ => exact ⟨rfl, (room n false hc).2, rfl⟩
theorem NsI.live {N : Nat} {z : Ar} {L : List NR} (h : NsI z L) (hA : AOk N z) {x : Int} : (z.reg.get x).isSome = true ↔ x ∈ L.map (·.r) := by
  rw [← hA.tk x, h.tr, List.map_map]; rfl
theorem NsI.nd {N : Nat} {z : Ar} {L : List NR} (h : NsI z L) (hA : AOk N z) : (L.map (·.r)).Nodup := by
  have := hA.T.nd
  rw [h.tr, List.map_map] at this
  exact this
theorem NsI.ix {N : Nat} {z : Ar} {L : List NR} (h : NsI z L) (hA : AOk N z) {i j : Nat} {a b : NR} (hi : L[i]? = some a) (hj : L[j]? = some b) (e : a.r = b.r) : i = j := by
  have e1 : (L.map (·.r))[i]? = (L.map (·.r))[j]? := by rw [List.getElem?_map, List.getElem?_map, hi, hj]; simp [e]
  have hil : i < (L.map (·.r)).length := by rw [List.length_map]; exact (List.getElem?_eq_some_iff.1 hi).1
  exact (List.getElem?_inj hil (h.nd hA)).1 e1
theorem NsI.trok {z : Ar} {L : List NR} (h : NsI z L) : TrOk z := by
  intro q hq hk _
  rcases h.rs q hq with ⟨r, hr, rfl⟩ | ⟨r, hr, rfl⟩
  · have := (h.kd r hr).2.1
    simp only at hk
    omega
  · rw [h.tr]; exact List.mem_map.2 ⟨r, hr, rfl⟩
theorem NsI.made {N : Nat} {z : Ar} {L : List NR} (h : NsI z L) (hA : AOk N z) (hN : N + 2 ≤ 100000) (hl : L.length ≤ 100) {p : Int} (hp : p = 0 ∨ p ∈ L.map (·.r)) (b : Nat) :
    AOk (N + 1) (z.created p b) ∧ (z.created p b).M[L.length]? = some (b, z.reg.addH, emptySh) ∧
    ∀ {C' : Co} {m' : Mm} {S' : Sh} {at_ e : Int}, AR (z.created p b).P (z.created p b).C (z.created p b).m emptySh z.reg.addH ((L.length : Int) + 1) 1 C' m' S' at_ e →
      e = 0 ∧ AOk (N + 2) ((z.created p b).alloced L.length b z.reg.addH ((L.length : Int) + 1) C' m' S' at_ 0) ∧ NsI ((z.created p b).alloced L.length b z.reg.addH ((L.length : Int) + 1) C' m' S' at_ 0) (L ++ [⟨z.reg.addH, z.obj.addH, p, (L.length : Int) + 1⟩]) := by
  have hp' : p = 0 ∨ (z.reg.get p).isSome = true := by
    rcases hp with h1 | h1
    · exact .inl h1
    · exact .inr ((h.live hA).2 h1)
  have hA1 := hA.created (by omega) hp' b
  have hml : z.M.length = L.length := by have := congrArg List.length h.M; simpa using this
  have hM : (z.created p b).M[L.length]? = some (b, z.reg.addH, emptySh) := by
    show (z.M ++ [(b, z.reg.addH, emptySh)])[L.length]? = _
    rw [← hml]; simp
  refine ⟨hA1, hM, fun {C' m' S' at_ e} har => ?_⟩
  have hR := hA1.R.one hM
  dsimp only at hR
  have hhw : HW (z.created p b).C (L.length : Int) := h.hw
  have hzP : (z.created p b).P = 200 := h.P
  obtain ⟨rfl, hw', hob'⟩ := har.room1 hR (by omega) (by omega) hhw (by omega) (by rw [hzP]; omega)
  have hA2 := hA1.alloced (by omega) hM (by omega) (by decide) (by decide) har
  have hSo : S'.obj = (L.length : Int) + 1 := by
    rw [hob']
    show IntKind.u64.wrap (0 + ((L.length : Int) + 1)) = _
    rw [wrap_u64 (by omega) (by omega)]; omega
  have r1 := Tb.addH_bd hA.rg
  have r3 := (Tb.addH_parts hA.rg).1
  have o1 := Tb.addH_bd hA.ob
  have o2 := Tb.addH_new hA.ob
  have o3 := (Tb.addH_parts hA.ob).1
  rw [hA.k1] at r3
  rw [hA.k2] at o3
  refine ⟨rfl, hA2, ?_, fun q hq => ?_, ?_, fun q hq => ?_, fun r hr => ?_, fun r hr => ?_, fun i r hi => ?_, ?_, h.P⟩
  · show z.tr ++ [(z.reg.addH, p)] = _
    rw [h.tr, List.map_append]; rfl
  · show ∃ a, (z.obj.add (at_, (L.length : Int) + 1, z.reg.addH)).get q.o = _
    rcases List.mem_append.1 hq with h1 | h1
    · obtain ⟨a, ha⟩ := h.ob q h1
      have hk := h.kd q h1
      refine ⟨a, ?_⟩
      rw [Tb.get_add hA.ob _ hk.2.2.2.2.1 hk.2.2.2.2.2, if_neg (fun e => by rw [e, o2] at ha; cases ha)]
      exact ha
    · simp at h1; subst h1
      exact ⟨at_, by rw [Tb.get_add hA.ob _ o1.1 o1.2, if_pos rfl]⟩
  · show (((z.M ++ [(b, z.reg.addH, emptySh)]).set L.length (b, z.reg.addH, S')).map fun q => (q.2.1, q.2.2.obj)) = _
    rw [← hml, List.set_append_right _ _ (Nat.le_refl _), Nat.sub_self, List.map_append, h.M, List.map_append]
    simp [hSo, hml]
  · have hq' : q ∈ (if p = 0 then z.rs else z.rs ++ [(p, z.reg.addH)]) ++ [(z.reg.addH, z.obj.addH)] := hq
    have hold : q ∈ z.rs → (∃ r ∈ L ++ [(⟨z.reg.addH, z.obj.addH, p, (L.length : Int) + 1⟩ : NR)], q = (r.r, r.o)) ∨ (∃ r ∈ L ++ [(⟨z.reg.addH, z.obj.addH, p, (L.length : Int) + 1⟩ : NR)], q = (r.p, r.r)) := fun h1 => by
      rcases h.rs q h1 with ⟨r, hr, e⟩ | ⟨r, hr, e⟩
      · exact .inl ⟨r, by simp [hr], e⟩
      · exact .inr ⟨r, by simp [hr], e⟩
    rcases List.mem_append.1 hq' with h1 | h1
    · by_cases hp0 : p = 0
      · rw [if_pos hp0] at h1; exact hold h1
      · rw [if_neg hp0] at h1
        rcases List.mem_append.1 h1 with h2 | h2
        · exact hold h2
        · simp at h2; exact .inr ⟨⟨z.reg.addH, z.obj.addH, p, (L.length : Int) + 1⟩, by simp, h2⟩
    · simp at h1; exact .inl ⟨⟨z.reg.addH, z.obj.addH, p, (L.length : Int) + 1⟩, by simp, h1⟩
  · show (r.r, r.o) ∈ (if p = 0 then z.rs else z.rs ++ [(p, z.reg.addH)]) ++ [(z.reg.addH, z.obj.addH)]
    rcases List.mem_append.1 hr with h1 | h1
    · have := h.ro r h1
      refine List.mem_append.2 (.inl ?_)
      split
      · exact this
      · exact List.mem_append.2 (.inl this)
    · simp at h1; subst h1; simp
  · rcases List.mem_append.1 hr with h1 | h1
    · exact h.kd r h1
    · simp at h1; subst h1; exact ⟨r3, o3, r1.1, r1.2, o1.1, o1.2⟩
  · by_cases hil : i < L.length
    · rw [List.getElem?_append_left hil] at hi; exact h.sz i r hi
    · rw [List.getElem?_append_right (by omega)] at hi
      have : i - L.length = 0 := by
        by_cases e : i - L.length = 0
        · exact e
        · rw [List.getElem?_eq_none (by simp; omega)] at hi; cases hi
      rw [this] at hi
      simp at hi; subst hi
      have : i = L.length := by omega
      subst this; rfl
  · show HW C' (((L ++ [_]).length : Nat) : Int)
    rw [List.length_append]
    exact hw'.up (by simp)
/-- What is left of it. -/
structure NsG (L : List NR) (G : List Int) (z : Ar) : Prop where
  ob : ∀ r ∈ L, ∃ a, z.obj.get r.o = if r.r ∈ G then none else some (a, r.s, r.r)
  rg : ∀ r ∈ L, (z.reg.get r.r).isSome = !decide (r.r ∈ G)
  old : ∀ r ∈ L, z.reg.Old r.r
  bd : ∀ r ∈ L, 0 ≤ r.r ∧ r.r ≤ 18446744073709551615 ∧ 0 ≤ r.o ∧ r.o ≤ 18446744073709551615 ∧ r.r ≠ 0
  sum : (z.M.map fun q => q.2.2.obj).sum = ((L.filter fun r => !decide (r.r ∈ G)).map (·.s)).sum
theorem NsI.freed {N : Nat} {z : Ar} {L : List NR} (h : NsI z L) (hA : AOk N z) {G : List Int} {z' : Ar} (hF : FrI N { z with tr := dropT z.tr G } G z') (hA' : ∃ n, AOk n z') : NsG L G z' := by
  obtain ⟨n, hA'⟩ := hA'
  have hL : ∀ r ∈ L, r.r ∈ L.map (·.r) := fun r hr => List.mem_map.2 ⟨r, hr, rfl⟩
  refine ⟨fun r hr => ?_, fun r hr => ?_, fun r hr => hF.old _ (Tb.Old.of_get ((h.live hA).2 (hL r hr))), fun r hr => ?_, ?_⟩
  · obtain ⟨a, ha⟩ := h.ob r hr
    have hk := h.kd r hr
    refine ⟨a, ?_⟩
    rw [hF.ob r.o hk.2.2.2.2.1 hk.2.2.2.2.2]
    have hiff : ((∃ g ∈ G, r.o ∈ ofL z.rs g) ∧ hKind r.o = 2) ↔ r.r ∈ G := by
      constructor
      · rintro ⟨⟨g, hg, ho⟩, _⟩
        rcases h.rs _ (ofL_val _ _ _ ho) with ⟨u, hu, e⟩ | ⟨u, hu, e⟩
        · simp only [Prod.mk.injEq] at e
          obtain ⟨b, hb⟩ := h.ob u hu
          rw [← e.2, ha] at hb
          simp only [Option.some.injEq, Prod.mk.injEq] at hb
          rw [hb.2.2, ← e.1]; exact hg
        · simp only [Prod.mk.injEq] at e
          have := (h.kd u hu).1
          rw [← e.2] at this
          omega
      · intro hg
        refine ⟨⟨r.r, hg, ?_⟩, hk.2.1⟩
        have hm := h.ro r hr
        revert hm
        generalize z.rs = w
        intro hm
        induction w with
        | nil => cases hm
        | cons q w ih =>
          obtain ⟨a', v⟩ := q
          unfold ofL
          rcases List.mem_cons.1 hm with h1 | h1
          · cases h1; rw [if_pos rfl]; simp
          · split
            · exact List.mem_cons.2 (.inr (ih h1))
            · exact ih h1
    by_cases hg : r.r ∈ G
    · rw [if_pos (hiff.2 hg), if_pos hg]
    · rw [if_neg (fun e => hg (hiff.1 e)), if_neg hg]; exact ha
  · have hk := h.kd r hr
    rw [hF.reg r.r hk.2.2.1 hk.2.2.2.1]
    by_cases hg : r.r ∈ G
    · rw [if_pos hg]; simp [hg]
    · rw [if_neg hg]
      have := (h.live hA).2 (hL r hr)
      simp [hg]; simpa using this
  · have hk := h.kd r hr
    refine ⟨hk.2.2.1, hk.2.2.2.1, hk.2.2.2.2.1, hk.2.2.2.2.2, ?_⟩
    intro e
    have : hKind r.r = 1 := hk.1
    rw [e] at this
    exact absurd this (by decide)
  · let F : Int → Int := fun k => match L.find? (fun r => r.r == k) with
      | none => 0
      | some r => r.s
    have hF1 : ∀ r ∈ L, F r.r = r.s := fun r hr => by
      have hfind : ∃ u, L.find? (fun q => q.r == r.r) = some u := by
        cases hc : L.find? (fun q => q.r == r.r) with
        | none => rw [List.find?_eq_none] at hc; exact absurd (beq_self_eq_true r.r) (hc r hr)
        | some u => exact ⟨u, rfl⟩
      obtain ⟨u, hu⟩ := hfind
      have hum := List.mem_of_find?_eq_some hu
      have hur : u.r = r.r := by have := List.find?_some hu; simpa using this
      obtain ⟨i, hi⟩ := List.getElem?_of_mem hr
      obtain ⟨j, hj⟩ := List.getElem?_of_mem hum
      have := h.ix hA hj hi hur
      subst this
      rw [hi] at hj
      obtain rfl := Option.some.inj hj
      show (match L.find? (fun q => q.r == r.r) with | none => 0 | some r => r.s) = r.s
      rw [hu]
    have hF2 : ∀ q ∈ z.M, q.2.2.obj = F q.2.1 := fun q hq => by
      have hm : (q.2.1, q.2.2.obj) ∈ L.map fun q => (q.r, q.s) := by rw [← h.M]; exact List.mem_map.2 ⟨q, hq, rfl⟩
      obtain ⟨r, hr, e⟩ := List.mem_map.1 hm
      simp only [Prod.mk.injEq] at e
      rw [← e.1, ← e.2]; exact (hF1 r hr).symm
    have e1 : (z'.M.map fun q => q.2.2.obj) = (z'.M.map (·.2.1)).map F := by
      rw [List.map_map]
      refine List.map_congr_left fun q hq => ?_
      exact hF2 q ((hF.M q).1 hq).1
    have e2 : ((L.filter fun r => !decide (r.r ∈ G)).map (·.s)) = ((L.filter fun r => !decide (r.r ∈ G)).map (·.r)).map F := by
      rw [List.map_map]
      refine List.map_congr_left fun r hr => ?_
      exact (hF1 r (List.mem_filter.1 hr).1).symm
    rw [e1, e2]
    refine sum_perm (List.Perm.map F (perm_of_nodup hA'.nd ((h.nd hA).sublist (List.Sublist.map _ List.filter_sublist)) fun x => ?_))
    have hkeys : ∀ k, k ∈ z.M.map (·.2.1) ↔ k ∈ L.map (·.r) := fun k => by
      have := congrArg (List.map Prod.fst) h.M
      rw [List.map_map, List.map_map] at this
      have e3 : z.M.map (·.2.1) = L.map (·.r) := this
      rw [e3]
    constructor
    · intro hx
      obtain ⟨q, hq, rfl⟩ := List.mem_map.1 hx
      have := (hF.M q).1 hq
      obtain ⟨r, hr, e⟩ := List.mem_map.1 ((hkeys q.2.1).1 (List.mem_map.2 ⟨q, this.1, rfl⟩))
      exact List.mem_map.2 ⟨r, List.mem_filter.2 ⟨hr, by rw [e]; simp [this.2]⟩, e⟩
    · intro hx
      obtain ⟨r, hr, rfl⟩ := List.mem_map.1 hx
      have hr' := List.mem_filter.1 hr
      obtain ⟨q, hq, e⟩ := List.mem_map.1 ((hkeys r.r).2 (hL r hr'.1))
      exact List.mem_map.2 ⟨q, (hF.M q).2 ⟨hq, by rw [e]; simpa using hr'.2⟩, e⟩
/-- Up the tree. -/
theorem NsI.up {N : Nat} {z : Ar} {L : List NR} (h : NsI z L) (hA : AOk N z) {j i : Nat} {u r : NR} (hj : L[j]? = some u) (hi : L[i]? = some r) (hij : i ≠ j) : r.r ∈ ordT z.tr u.r ↔ r.p ∈ ordT z.tr u.r := by
  have hm : (r.r, r.p) ∈ z.tr := by rw [h.tr]; exact List.mem_map.2 ⟨r, List.mem_of_getElem? hi, rfl⟩
  constructor
  · intro hg
    rcases ordF_up _ _ hg with h1 | ⟨p, hp, h1⟩
    · exact absurd (h.ix hA hi hj h1) hij
    · have := hA.T.par hm h1
      rw [this]; exact hp
  · intro hg
    exact ordF_down (low_all hA.T u.r) hg (kids_mem.2 hm)
theorem NsI.zero {N : Nat} {z : Ar} {L : List NR} (h : NsI z L) (hA : AOk N z) {u : NR} (hu : u ∈ L) : (0 : Int) ∉ ordT z.tr u.r := fun hg => by
  have hid : u.r ∈ z.tr.map (·.1) := by rw [h.tr, List.map_map]; exact List.mem_map.2 ⟨u, hu, rfl⟩
  obtain ⟨q, hq, e⟩ := List.mem_map.1 (ordF_in hid hg)
  exact hA.T.nz q hq e
end Go.Proofs.YtamecmklcnohjaaGreat.Sep
namespace Go.Proofs.YtamecmklcnohjaaGreat.Sep
open Go.ChangeShapes Go.WideShapes Go.ChangeAt Go.RowKit Go.Deep
set_option linter.unusedSimpArgs false
set_option linter.unusedVariables false
/-! arguments that are slices of bools, or of flat structs with bools among their fields -/
/-- What a flat type's cells are. -/
def FlatP (P : Program) (t : TypeId) (n : Nat) (φ : List Value → Prop) : Prop :=
  P.cellsOf t = n ∧ ∀ (H : Type) (enc : TypeId × Value → H) (W : World) (base : Nat) (sp : Nat → Bool) (held : Bool) (fuel : Nat) (cs : List Value) (x : DataW H × List MemPlace), DataW.trod enc P W base sp held fuel t cs = some x → φ cs
def Parts : List Value → List (Nat × (List Value → Prop)) → Prop
  | cs, [] => cs = []
  | cs, q :: l => q.2 (cs.take q.1) ∧ Parts (cs.drop q.1) l
def FlatPs (P : Program) : Nat → List Field → List (Nat × (List Value → Prop)) → Prop
  | _, [], [] => True
  | o, f :: fs, q :: qs => f.offset = o ∧ FlatP P f.type q.1 q.2 ∧ FlatPs P (o + q.1) fs qs
  | _, _, _ => False
def sumN (qs : List (Nat × (List Value → Prop))) : Nat := (qs.map (·.1)).sum
section
variable {H : Type} {enc : TypeId × Value → H} {P : Program} {W : World} {b0 : Nat} {sp : Nat → Bool} {held : Bool}
end
end Go.Proofs.YtamecmklcnohjaaGreat.Sep
