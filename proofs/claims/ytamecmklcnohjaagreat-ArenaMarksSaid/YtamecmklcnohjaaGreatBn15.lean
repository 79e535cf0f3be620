import Derived.Test.YtamecmklcnohjaaGreatBn14
import Derived.Test.YtamecmklcnohjaaGreatBn10
import Derived.Test.YtamecmklcnohjaaGreatBn11
import Derived.Test.YtamecmklcnohjaaGreatBn4
import Derived.Deep.Grids
/- What the laws share: a separation logic over the model, and what the program's functions do, by it. Part 15 of 15: ArInv Awake18 High ArCut RowV. -/
namespace Go.Proofs.YtamecmklcnohjaaGreat.Sep
open Go.RowKit
set_option linter.unusedSimpArgs false
set_option linter.unusedVariables false
/-! arenas: what holds behind each act -/
theorem al_zero (x a : Int) : (x + (-x) % a) % a = 0 := by
  rw [Int.add_emod, Int.emod_emod, ← Int.add_emod, Int.add_right_neg]; exact Int.zero_emod _
/-- Where what was made lies. -/
theorem AR.place {P : Int} {B : Nat} {o : Int} {C C' : Co} {m m' : Mm} {s s' : Sh} {oth : List (Int × Hd)} {size align at_ e : Int} (hR : RInv P B o C m.f s oth) (ho : 0 ≤ o ∧ o < 18446744073709551616) (h0 : 0 ≤ size) (h2 : 0 ≤ align) (h3 : align ≤ 18446744073709551615) (h : AR P C m s o size align C' m' s' at_ e) (he : e = 0) :
    1 ≤ size ∧ at_ % align = 0 ∧ ∃ r ∈ s'.parts.map runP ++ s'.larges, r.1 * 4096 + 32 ≤ at_ ∧ at_ + size ≤ (r.1 + r.2) * 4096 ∧ RunOk P r := by
  have hR' := h.inv hR ho h0 h2 h3
  have hP := hR.P1
  cases h with
  | bad _ => cases he
  | huge _ _ _ => cases he
  | full _ _ _ _ _ _ => cases he
  | fit q hb hf =>
    obtain ⟨g1, g2, g3, g4, g5⟩ := good_al h2 h3 hb
    have hne : s.parts ≠ [] := fun e => by
      have : topEnd s = 0 := by unfold topEnd; rw [e]; rfl
      rw [this] at hf
      have hta : topAt s = 0 := by unfold topAt; rw [e]; rfl
      have := fit_some (by omega) g3 h0 hf
      omega
    obtain ⟨hm, hrun, hpt⟩ := hR.cur hne
    unfold PtOk at hpt
    have hrn := hrun
    unfold RunOk runP at hrun
    simp only at hrun
    have hta : topAt s = (lastP s.parts).2.2.1 := rfl
    have hte : topEnd s = (lastP s.parts).2.2.2 := rfl
    have hf2 := fit_some (by omega) g3 h0 hf
    refine ⟨by omega, hf2.2.2.2.2.1, runP (lastP s.parts), List.mem_append.2 (.inl ?_), by show (lastP s.parts).1 * 4096 + 32 ≤ _; omega, by show q.1 + size ≤ ((lastP s.parts).1 + (lastP s.parts).2.1) * 4096; omega, hrn⟩
    unfold setTop
    simp only
    rw [setLast_runP]
    exact List.mem_map.2 ⟨_, hm, rfl⟩
  | big n pg hb hf hc hg =>
    have hrun := hR'.S.pi.larges (pg, n) (by simp)
    obtain ⟨g1, g2, g3, g4, g5⟩ := good_al h2 h3 hb
    obtain ⟨_, c1, c2, c3⟩ := chunk_fit h0 h2 h3 hb hc hP.2 hrun
    rw [if_pos rfl] at c3
    have hpm := page_mod (align := align) (pg := pg) g5 32
    have hrn := hrun
    unfold RunOk at hrun
    simp only at hrun
    refine ⟨by omega, ?_, (pg, n), List.mem_append.2 (.inr (by simp)), by show pg * 4096 + 32 ≤ _; omega, by show _ ≤ (pg + n) * 4096; omega, hrn⟩
    rw [← hpm]; exact al_zero _ _
  | part n pg hb hf hc hg =>
    have hrun := hR'.S.pi.parts (pg, n) (by simp [runP])
    obtain ⟨g1, g2, g3, g4, g5⟩ := good_al h2 h3 hb
    obtain ⟨_, c1, c2, c3⟩ := chunk_fit h0 h2 h3 hb hc hP.2 hrun
    rw [if_neg (by decide)] at c3
    have hpm := page_mod (align := align) (pg := pg) g5 32
    have hrn := hrun
    unfold RunOk at hrun
    simp only at hrun
    refine ⟨by omega, ?_, (pg, n), List.mem_append.2 (.inl (by simp [runP])), by show pg * 4096 + 32 ≤ _; omega, by show _ ≤ (pg + n) * 4096; omega, hrn⟩
    rw [← hpm]; exact al_zero _ _
theorem Tb.get_bd {α : Type} {N : Nat} {t : Tb α} (h : TbOk N t) {x : Int} {v : α} (hg : t.get x = some v) : 0 ≤ x ∧ x ≤ 18446744073709551615 := by
  obtain ⟨i, hs, _⟩ := Tb.get_some hg
  obtain ⟨_, _, hk, _⟩ := Tb.spot_some hs
  have := h.kd
  unfold hKind at hk
  omega
theorem Tb.put_kind {α : Type} (t : Tb α) (y : Int) (v : α) : (t.put y v).kind = t.kind := (Tb.put_parts (t := t) (y := y) (v := v) 0).2.2.1
theorem created_get {N : Nat} {z : Ar} (h : AOk N z) (hN : N + 1 ≤ 100000) (r : Nat) {x : Int} (x0 : 0 ≤ x) (x1 : x ≤ 18446744073709551615) : ((z.reg.add none).put z.reg.addH (some r)).get x = if x = z.reg.addH then some (some r) else z.reg.get x := by
  have hb := Tb.addH_bd h.rg
  rw [Tb.get_put (h.rg.add (by omega) none) (some r) x0 x1 hb.1 hb.2, Tb.get_add h.rg none x0 x1, Tb.get_add h.rg none hb.1 hb.2]
  by_cases he : x = z.reg.addH
  · rw [if_pos ⟨he, by rw [if_pos rfl]; rfl⟩, if_pos he]
  · rw [if_neg (fun hh => he hh.1), if_neg he, if_neg he]
theorem emptyS (P : Int) (B : Nat) : SInv P B emptySh := ⟨⟨(fun p hp => by cases hp), (fun r hr => by cases hr), by decide, by decide⟩, ⟨(fun r hr => by cases hr), (fun r hr => by cases hr)⟩, Nat.zero_le _, Nat.zero_le _⟩
theorem RAll.snoc {P : Int} {B : Nat} {C : Co} {m : Int → Int} {M : List RgT} (h : RAll P B C m M) (r : Nat) (o : Int) : RAll P B C m (M ++ [(r, o, emptySh)]) := by
  have hg : gotM (M ++ [(r, o, emptySh)]) = gotM M := by
    unfold gotM; rw [List.flatMap_append]; show _ ++ (gotR o emptySh ++ []) = _; simp [gotR, emptySh, plH]
  refine ⟨by rw [hg]; exact h.K, h.hP, fun q hq => ?_, fun q hq => ?_⟩
  · rcases List.mem_append.1 hq with h1 | h1
    · exact h.S q h1
    · simp at h1; subst h1; exact emptyS _ _
  · rcases List.mem_append.1 hq with h1 | h1
    · exact h.po q h1
    · simp at h1; subst h1; intro p hp; cases hp
theorem AOk.created {N : Nat} {z : Ar} (h : AOk N z) (hN : N + 1 ≤ 100000) {p : Int} (hp : p = 0 ∨ (z.reg.get p).isSome = true) (r : Nat) : AOk (N + 1) (z.created p r) := by
  have hb := Tb.addH_bd h.rg
  have hne := Tb.addH_ne h.rg
  have hnw := Tb.addH_new h.rg
  have hTa := (h.rg.add (by omega) none).put z.reg.addH (some r)
  have hcg := fun {x : Int} => created_get (x := x) h hN r
  have hni : z.reg.addH ∉ z.tr.map (·.1) := fun hh => by have := (h.tk _).1 hh; rw [hnw] at this; cases this
  have hpi : p = 0 ∨ p ∈ z.tr.map (·.1) := by
    rcases hp with h1 | h1
    · exact .inl h1
    · exact .inr ((h.tk p).2 h1)
  refine ⟨hN, (h.R.snoc r _).le (Nat.le_succ _), hTa, h.ob.le (Nat.le_succ _) (by omega), h.mr.le (Nat.le_succ _) (by omega), ?_, h.k2, h.k3, h.T.add hne hni hpi, ?_, ?_, fun x v hv => ?_, fun q hq => ?_, fun q hq => ?_, ?_, fun x => ?_, h.pl, fun q hq => ?_⟩
  · show ((z.reg.add none).put z.reg.addH (some r)).kind = 1
    rw [Tb.put_kind, Tb.kind_add]; exact h.k1
  · show (z.tr ++ [_]).length ≤ N + 1
    have := h.tl; simp; omega
  · show (if p = 0 then z.rs else z.rs ++ [_]).length ≤ N + 1
    have := h.rl; split <;> simp <;> omega
  · have hxb := Tb.get_bd hTa hv
    have hv' : ((z.reg.add none).put z.reg.addH (some r)).get x = some v := hv
    rw [hcg hxb.1 hxb.2] at hv'
    by_cases he : x = z.reg.addH
    · rw [if_pos he] at hv'
      refine ⟨z.M.length, r, emptySh, (Option.some.inj hv').symm, ?_⟩
      show (z.M ++ [_])[z.M.length]? = _
      rw [he]; simp
    · rw [if_neg he] at hv'
      obtain ⟨i, b, S, e1, e2⟩ := h.live x v hv'
      refine ⟨i, b, S, e1, ?_⟩
      show (z.M ++ [_])[i]? = _
      rw [List.getElem?_append_left (List.getElem?_eq_some_iff.1 e2).1]; exact e2
  · show ((z.reg.add none).put z.reg.addH (some r)).get q.2.1 = _
    have hq' : q ∈ z.M ++ [(r, z.reg.addH, emptySh)] := hq
    rcases List.mem_append.1 hq' with h1 | h1
    · have hqb := h.hb q h1
      rw [hcg hqb.1 hqb.2, if_neg (fun e => by have := h.own q h1; rw [e, hnw] at this; cases this)]
      exact h.own q h1
    · simp at h1; subst h1
      show ((z.reg.add none).put z.reg.addH (some r)).get z.reg.addH = _
      rw [hcg hb.1 hb.2, if_pos rfl]
  · have hq' : q ∈ z.M ++ [(r, z.reg.addH, emptySh)] := hq
    rcases List.mem_append.1 hq' with h1 | h1
    · exact h.hb q h1
    · simp at h1; subst h1; exact hb
  · show ((z.M ++ [(r, z.reg.addH, emptySh)]).map (·.2.1)).Nodup
    rw [List.map_append, List.nodup_append]
    refine ⟨h.nd, by simp, fun a ha c hc e => ?_⟩
    simp at hc; subst hc; subst e
    obtain ⟨q, hq, e⟩ := List.mem_map.1 ha
    have := h.own q hq
    rw [e, hnw] at this; cases this
  · show x ∈ (z.tr ++ [(z.reg.addH, p)]).map (·.1) ↔ (((z.reg.add none).put z.reg.addH (some r)).get x).isSome = true
    rw [List.map_append, List.mem_append]
    constructor
    · intro hx
      rcases hx with h1 | h1
      · have hs := (h.tk x).1 h1
        obtain ⟨v, hv⟩ := Option.isSome_iff_exists.1 hs
        have hxb := Tb.get_bd h.rg hv
        rw [hcg hxb.1 hxb.2]; split
        · rfl
        · exact hs
      · simp at h1; subst h1
        rw [hcg hb.1 hb.2, if_pos rfl]; rfl
    · intro hs
      obtain ⟨v, hv⟩ := Option.isSome_iff_exists.1 hs
      have hxb := Tb.get_bd hTa hv
      rw [hcg hxb.1 hxb.2] at hs
      by_cases he : x = z.reg.addH
      · right; simp [he]
      · rw [if_neg he] at hs; exact .inl ((h.tk x).2 hs)
  · have hq' : q ∈ (if p = 0 then z.rs else z.rs ++ [(p, z.reg.addH)]) := hq
    split at hq'
    · exact h.rb q hq'
    · rcases List.mem_append.1 hq' with h1 | h1
      · exact h.rb q h1
      · simp at h1; subst h1; exact hb
theorem set_keep {M : List RgT} {i b : Nat} {o : Int} {S S' : Sh} (hq : M[i]? = some (b, o, S)) : (M.set i (b, o, S')).map (fun q => (q.1, q.2.1)) = M.map (fun q => (q.1, q.2.1)) := by
  obtain ⟨hi, he⟩ := List.getElem?_eq_some_iff.1 hq
  rw [List.map_set]
  refine List.ext_getElem (by simp) fun n h1 h2 => ?_
  simp only [List.getElem_set, List.getElem_map]
  split
  · rename_i e; subst e; rw [he]
  · rfl
/-- A region's shape, the store and the space are changed. -/
theorem AOk.shape {N : Nat} {z : Ar} (h : AOk N z) (hN : N + 1 ≤ 100000) {i b : Nat} {o : Int} {S S' : Sh} (hq : z.M[i]? = some (b, o, S)) {C' : Co} {m' : Mm} (hR : RInv z.P (N + 1) o C' m'.f S' (gotM (z.M.eraseIdx i))) : AOk (N + 1) { z with C := C', m := m', M := z.M.set i (b, o, S') } := by
  have hi := (List.getElem?_eq_some_iff.1 hq).1
  have hk := set_keep (S' := S') hq
  have hmem : ∀ q ∈ z.M.set i (b, o, S'), ∃ S0, (q.1, q.2.1, S0) ∈ z.M := fun q hq2 => by
    rcases List.mem_or_eq_of_mem_set hq2 with h1 | h1
    · exact ⟨q.2.2, h1⟩
    · subst h1; exact ⟨S, List.mem_of_getElem? hq⟩
  refine ⟨hN, h.R.set hi (Nat.le_succ _) hR, h.rg.le (Nat.le_succ _) (by omega), h.ob.le (Nat.le_succ _) (by omega), h.mr.le (Nat.le_succ _) (by omega), h.k1, h.k2, h.k3, h.T, Nat.le_succ_of_le h.tl, Nat.le_succ_of_le h.rl, fun x v hv => ?_, fun q hq2 => ?_, fun q hq2 => ?_, ?_, h.tk, h.pl, h.rb⟩
  · obtain ⟨j, c, S0, e1, e2⟩ := h.live x v hv
    show ∃ i_1 b_1 S_1, v = some b_1 ∧ (z.M.set i (b, o, S'))[i_1]? = some (b_1, x, S_1)
    by_cases hij : i = j
    · subst hij
      rw [hq] at e2
      cases e2
      exact ⟨i, b, S', e1, by simp [hi]⟩
    · exact ⟨j, c, S0, e1, by rw [List.getElem?_set, if_neg hij]; exact e2⟩
  · obtain ⟨S0, h1⟩ := hmem q hq2
    exact h.own (q.1, q.2.1, S0) h1
  · obtain ⟨S0, h1⟩ := hmem q hq2
    exact h.hb (q.1, q.2.1, S0) h1
  · have : (z.M.set i (b, o, S')).map (·.2.1) = z.M.map (·.2.1) := by
      have := congrArg (List.map Prod.snd) hk
      rw [List.map_map, List.map_map] at this
      exact this
    show ((z.M.set i (b, o, S')).map (·.2.1)).Nodup
    rw [this]; exact h.nd
theorem AOk.alloced {N : Nat} {z : Ar} (h : AOk N z) (hN : N + 1 ≤ 100000) {i b : Nat} {of_ size align : Int} {S S' : Sh} (hq : z.M[i]? = some (b, of_, S)) {C' : Co} {m' : Mm} {at_ e : Int} (h0 : 0 ≤ size) (h2 : 0 ≤ align) (h3 : align ≤ 18446744073709551615) (har : AR z.P z.C z.m S of_ size align C' m' S' at_ e) : AOk (N + 1) (z.alloced i b of_ size C' m' S' at_ e) := by
  have hR := h.R.one hq
  have hob := h.hb _ (List.mem_of_getElem? hq)
  dsimp only at hR hob
  have hs := h.shape hN hq (har.inv hR (by omega) h0 h2 h3)
  unfold Ar.alloced
  by_cases he : e = 0
  · rw [if_pos he, if_pos he]
    obtain ⟨p1, p2, r, hr, p3, p4, p5⟩ := har.place hR (by omega) h0 h2 h3 he
    unfold RunOk at p5
    have hob2 := Tb.addH_bd h.ob
    refine ⟨hN, hs.R, hs.rg, h.ob.add (by omega) _, hs.mr, hs.k1, by rw [Tb.kind_add]; exact h.k2, hs.k3, hs.T, hs.tl, ?_, hs.live, hs.own, hs.hb, hs.nd, hs.tk, fun x o hx => ?_, fun q hq2 => ?_⟩
    · show (z.rs ++ [_]).length ≤ N + 1
      have := h.rl; simp; omega
    · have hxb := Tb.get_bd (h.ob.add (by omega) (at_, size, of_)) hx
      have hx' : (z.obj.add (at_, size, of_)).get x = some o := hx
      rw [Tb.get_add h.ob _ hxb.1 hxb.2] at hx'
      split at hx'
      · cases hx'
        show 0 ≤ at_ ∧ 0 ≤ size ∧ at_ + size ≤ z.P * 4096
        omega
      · exact h.pl x o hx'
    · have hq' : q ∈ z.rs ++ [(of_, z.obj.addH)] := hq2
      rcases List.mem_append.1 hq' with h1 | h1
      · exact h.rb q h1
      · simp at h1; subst h1; exact hob2
  · rw [if_neg he, if_neg he]
    exact hs
theorem AOk.marked {N : Nat} {z : Ar} (h : AOk N z) (hN : N + 1 ≤ 100000) (of_ : Int) (S : Sh) : AOk (N + 1) (z.marked of_ S) := by
  have hb := Tb.addH_bd h.mr
  have h' := h.le (Nat.le_succ N) hN
  refine ⟨hN, h'.R, h'.rg, h'.ob, h.mr.add (by omega) _, h'.k1, h'.k2, by show (z.mar.add _).kind = 3; rw [Tb.kind_add]; exact h.k3, h'.T, h'.tl, ?_, h'.live, h'.own, h'.hb, h'.nd, h'.tk, h'.pl, fun q hq => ?_⟩
  · show (z.rs ++ [_]).length ≤ N + 1
    have := h.rl; simp; omega
  · have hq' : q ∈ z.rs ++ [(of_, z.mar.addH)] := hq
    rcases List.mem_append.1 hq' with h1 | h1
    · exact h.rb q h1
    · simp at h1; subst h1; exact hb
theorem AOk.mem {N : Nat} {z : Ar} (h : AOk N z) {m' : Mm} (hm : m'.f = z.m.f) : AOk N { z with m := m' } := ⟨h.hN, ⟨by show KInv z.C m'.f _; rw [hm]; exact h.R.K, h.R.hP, h.R.S, h.R.po⟩, h.rg, h.ob, h.mr, h.k1, h.k2, h.k3, h.T, h.tl, h.rl, h.live, h.own, h.hb, h.nd, h.tk, h.pl, h.rb⟩
theorem AOk.new (p : Int) : AOk 0 ⟨⟨min (max p 1) 1048576, [(0, min (max p 1) 1048576)], fun _ => [], 0⟩, ⟨fun _ => 0, 0⟩, min (max p 1) 1048576, ⟨1, [], []⟩, [], ⟨2, [], []⟩, ⟨3, [], []⟩, [], []⟩ := by
  have hT : ∀ {α : Type} (k : Int), 1 ≤ k ∧ k ≤ 3 → TbOk 0 (⟨k, [], []⟩ : Tb α) := fun k hk => ⟨by decide, hk, Nat.le_refl _, (fun q hq => by cases hq), (fun i hi => by cases hi), List.nodup_nil⟩
  have hnone : ∀ {α : Type} (k x : Int), (⟨k, [], []⟩ : Tb α).get x = none := fun k x => by
    unfold Tb.get
    rw [show (⟨k, [], []⟩ : Tb _).spot x = none from if_neg (fun hh => by have := hh.2.1; simp [Tb.usedAt] at this)]
    rfl
  refine ⟨by decide, ⟨knew p _, rfl, (fun q hq => by cases hq), (fun q hq => by cases hq)⟩, hT 1 (by decide), hT 2 (by decide), hT 3 (by decide), rfl, rfl, rfl, TWf.nil, Nat.le_refl _, Nat.le_refl _, fun x v hv => ?_, (fun q hq => by cases hq), (fun q hq => by cases hq), List.nodup_nil, fun x => ?_, fun x o hx => ?_, (fun q hq => by cases hq)⟩
  · have hv' : (⟨1, [], []⟩ : Tb (Option Nat)).get x = some v := hv
    rw [hnone] at hv'; cases hv'
  · show x ∈ [] ↔ ((⟨1, [], []⟩ : Tb (Option Nat)).get x).isSome = true
    rw [hnone]; simp
  · have hx' : (⟨2, [], []⟩ : Tb (Int × Int × Int)).get x = some o := hx
    rw [hnone] at hx'; cases hx'
theorem AOk.give0 {N : Nat} {z : Ar} (h : AOk N z) (hN : N + N ≤ 100000) (of_ : Int) (n : Nat) : AOk (N + N) (z.give0 of_ n) := by
  have hrl := h.rl
  have hol := length_ofL_le z.rs of_
  have hbl : ∀ y ∈ ((ofL z.rs of_).drop n).reverse, 0 ≤ y ∧ y ≤ 18446744073709551615 := fun y hy => h.rb _ (ofL_val _ _ _ (List.mem_of_mem_drop (List.mem_reverse.1 hy)))
  have hll : ((ofL z.rs of_).drop n).reverse.length ≤ N := by rw [List.length_reverse, List.length_drop]; omega
  exact (AOk.fold hbl (h.cut of_ n) (by omega)).le (by omega) hN
theorem AOk.rewound {N : Nat} {z : Ar} (h : AOk N z) (hN : N + N + 1 ≤ 100000) {i b : Nat} {of_ mc ml at_ ob pd : Int} {S : Sh} (hq : z.M[i]? = some (b, of_, S)) (hf : fitsS S mc ml at_ = true) (ha0 : 0 ≤ at_) (ho : 0 ≤ ob ∧ ob ≤ 18446744073709551615) (hp : 0 ≤ pd ∧ pd ≤ 18446744073709551615) (n : Nat) :
    AOk (N + N + 1) { z.give0 of_ n with C := putsC z.C S mc ml, m := rewM z.P z.m S mc ml at_, M := z.M.set i (b, of_, setTop (cutS S mc ml) at_ ob pd) } := by
  have hg := h.give0 (by omega) of_ n
  have hfr := fold_reg ((ofL z.rs of_).drop n).reverse { z with rs := cutW z.rs of_ n }
  have hR := h.R.one hq
  rw [show (((ofL z.rs of_).drop n).reverse.foldl Ar.giveH { z with rs := cutW z.rs of_ n }) = z.give0 of_ n from rfl] at hfr
  generalize z.give0 of_ n = zg at hg hfr ⊢
  obtain ⟨f1, f2, f3, f4, f5, f6, f7⟩ := hfr
  dsimp only at f2 f5 hR
  have hr := rew_inv (ob := ob) (pd := pd) hR hf ha0 ho hp
  rw [← f2] at hq hr ⊢
  rw [← f5] at hr ⊢
  exact hg.shape (by omega) hq (hr.le (B' := N + N + 1) (by omega))
def Ar.setR (z : Ar) (C : Co) (m : Mm) (M : List RgT) : Ar := ⟨C, m, z.P, z.reg, M, z.obj, z.mar, z.tr, z.rs⟩
def Ar.rewound (z : Ar) (i b : Nat) (k : MkT) (S : Sh) : Ar := (z.give0 k.of_ k.tr.toNat).setR (putsC z.C S k.mc k.ml) (rewM z.P z.m S k.mc k.ml k.at_) (z.M.set i (b, k.of_, setTop (cutS S k.mc k.ml) k.at_ k.ob k.pd))
theorem AOk.rew {N : Nat} {z : Ar} (h : AOk N z) (hN : N + N + 1 ≤ 100000) {i b : Nat} {k : MkT} {S : Sh} (hq : z.M[i]? = some (b, k.of_, S)) (hf : fitsS S k.mc k.ml k.at_ = true) (ha0 : 0 ≤ k.at_) (ho : 0 ≤ k.ob ∧ k.ob ≤ 18446744073709551615) (hp : 0 ≤ k.pd ∧ k.pd ≤ 18446744073709551615) : AOk (N + N + 1) (z.rewound i b k S) := h.rewound hN hq hf ha0 ho hp k.tr.toNat
theorem ar_rew0 (x : ABl) (z : Ar) {N : Nat} (hA : AOk N z) (hN : N + N ≤ 100000) (h : Int) (h0 : 0 ≤ h) (h1 : h ≤ 18446744073709551615) {k : MkT} (hg : z.mar.get h = some k) (hk : 0 ≤ k.tr) {i b : Nat} {S : Sh} (hq : z.M[i]? = some (b, k.of_, S)) (hr : ∀ y ∈ (ofL z.rs k.of_).drop k.tr.toNat, hKind y = 1 → z.reg.get y = none) (hf : fitsS S k.mc k.ml k.at_ = true) (ha0 : 0 ≤ k.at_) (ha1 : k.at_ ≤ 18446744073709551615) :
    Spec Tryz.prog 37 [.pointer (some ⟨x.a, 0, none⟩), .int .u64 h] [Arn x z] (fun v L => v = .int .i64 0 ∧ L = [Arn x (z.rewound i b k S)]) := ar_rewind0 x z hA hN h h0 h1 hg hk hq hr hf ha0 ha1
end Go.Proofs.YtamecmklcnohjaaGreat.Sep
namespace Go.Proofs.YtamecmklcnohjaaGreat.Sep
open Go.RowKit
set_option linter.unusedSimpArgs false
set_option linter.unusedVariables false
/-! the document's example of arenas -/
def ark0 : Co := ⟨8, [(0, 8)], fun _ => [], 0⟩
def ark1 : Co := (getC ark0 1).1
def ars1 : Sh := ⟨[(0, 1, 42, 4096)], [], 10, 0⟩
def ars2 : Sh := ⟨[(0, 1, 62, 4096)], [], 30, 0⟩
theorem nb18 {size align : Int} (h : (decide (size ≠ 0) && (needI 1 align).isSome) = true) : ¬ badA size align := by
  simp at h
  intro h'
  rcases h' with h' | h'
  · exact h.1 h'
  · rw [h.2] at h'; cases h'
theorem ara1 (m : Mm) (o : Int) : ∃ C m', AR 8 ark0 m emptySh o 10 1 C m' ars1 32 0 ∧ C = ark1 :=
  ⟨_, _, AR.part 1 0 (nb18 (by decide)) (by decide +kernel) (by decide +kernel) (by decide +kernel), rfl⟩
theorem ara2 (C : Co) (m : Mm) (o : Int) : AR 8 C m ars1 o 20 1 C m ars2 42 0 := AR.fit (42, 62, 0) (nb18 (by decide)) (by decide +kernel)
theorem ara3 : fitsS ars2 1 0 42 = true ∧ setTop (cutS ars2 1 0) 42 10 0 = ars1 := ⟨by decide +kernel, rfl⟩
def aH : Int := 4611686018427387904
def aO1 : Int := 9223372036854775808
def aO2 : Int := 9223372036854775809
def aK : Int := 13835058055282163712
def az0 (m : Mm) : Ar := ⟨ark0, m, 8, ⟨1, [], []⟩, [], ⟨2, [], []⟩, ⟨3, [], []⟩, [], []⟩
def az1 (r : Nat) (m : Mm) : Ar := ⟨ark0, m, 8, ⟨1, [(some r, true, 0)], []⟩, [(r, aH, emptySh)], ⟨2, [], []⟩, ⟨3, [], []⟩, [(aH, 0)], []⟩
def az2 (r : Nat) (m : Mm) : Ar := ⟨ark1, m, 8, ⟨1, [(some r, true, 0)], []⟩, [(r, aH, ars1)], ⟨2, [((32, 10, aH), true, 0)], []⟩, ⟨3, [], []⟩, [(aH, 0)], [(aH, aO1)]⟩
def ak1 : MkT := ⟨1, 0, 42, 10, 0, aH, 2⟩
def az3 (r : Nat) (m : Mm) : Ar := ⟨ark1, m, 8, ⟨1, [(some r, true, 0)], []⟩, [(r, aH, ars1)], ⟨2, [((32, 10, aH), true, 0)], []⟩, ⟨3, [(ak1, true, 0)], []⟩, [(aH, 0)], [(aH, aO1), (aH, aK)]⟩
def az4 (r : Nat) (m : Mm) : Ar := ⟨ark1, m, 8, ⟨1, [(some r, true, 0)], []⟩, [(r, aH, ars2)], ⟨2, [((32, 10, aH), true, 0), ((42, 20, aH), true, 0)], []⟩, ⟨3, [(ak1, true, 0)], []⟩, [(aH, 0)], [(aH, aO1), (aH, aK), (aH, aO2)]⟩
def az5 (r : Nat) (m : Mm) : Ar := ⟨putsC ark1 ars2 1 0, m, 8, ⟨1, [(some r, true, 0)], []⟩, [(r, aH, ars1)], ⟨2, [((32, 10, aH), true, 0), ((0, 0, 0), false, 1)], [1]⟩, ⟨3, [(ak1, true, 0)], []⟩, [(aH, 0)], [(aH, aO1), (aH, aK)]⟩
theorem aze1 (r : Nat) (m : Mm) : (az0 m).created 0 r = az1 r m := by kernel_rfl
theorem aze2 (r : Nat) (m m' : Mm) : (az1 r m).alloced 0 r aH 10 ark1 m' ars1 32 0 = az2 r m' := by kernel_rfl
theorem aze3 (r : Nat) (m : Mm) : (az2 r m).marked aH ars1 = az3 r m := by kernel_rfl
theorem aze4 (r : Nat) (m : Mm) : (az3 r m).alloced 0 r aH 20 ark1 m ars2 42 0 = az4 r m := by kernel_rfl
theorem aze5 (r : Nat) (m : Mm) : (az4 r m).rewound 0 r ak1 ars2 = az5 r (rewM 8 m ars2 1 0 42) := by kernel_rfl
theorem azh0 (m : Mm) : (az0 m).reg.addH = aH := by kernel_rfl
theorem azh1 (r : Nat) (m : Mm) : (az1 r m).obj.addH = aO1 := by kernel_rfl
theorem azh2 (r : Nat) (m : Mm) : (az2 r m).mar.addH = aK := by kernel_rfl
theorem azh3 (r : Nat) (m : Mm) : (az3 r m).obj.addH = aO2 := by kernel_rfl
theorem azg (r : Nat) (m : Mm) : (az4 r m).mar.get aK = some ak1 := by kernel_rfl
theorem azr (r : Nat) (m : Mm) : (ofL (az4 r m).rs aH).drop 2 = [aO2] := by kernel_rfl
theorem azd2 (r : Nat) (m : Mm) : rdE (az5 r m) aO2 0 1 = 2 := by kernel_rfl
theorem azd1 (r : Nat) (m : Mm) : rdE (az5 r m) aO1 0 10 = 0 := by kernel_rfl
theorem azm (r : Nat) (m : Mm) : sumH Sh.obj (az5 r m) (az5 r m).reg.handles.length = 10 := by kernel_rfl
set_option maxHeartbeats 8000000
attribute [local irreducible] X XE XO XD XDi XDa PV RV DV pt base Spec Sl Mp Keeps Pg Kc
attribute [local irreducible] Pgs Spc Ck XL XLi Pl Rs Rg View Tbl Tre Ros Star RgOf Arn
theorem awake18_spec : Spec Tryz.prog 29 [] [] isTrue := by
  refine Spec.intro (IsEnt.out) Tryz.func29 rfl Tryz.ntmps29 (by simp) (fun w0 F => ?_)
  simp only [envOf, List.zipIdx, List.map, List.cons_append, List.nil_append, Nat.zero_add, Nat.reduceAdd]
  repeat (first | refine Zq ?_ | refine Zs ?_ | refine ZT ?_ | refine ZF ?_ | refine Zc ?_ | refine XO_gU (hk := ?_))
  refine XO_call (ar_new 8) (hk := ?_)
  rintro _ _ ⟨x, rfl, rfl⟩
  have hA0 : AOk 0 (az0 ⟨fun _ => 0, 0⟩) := AOk.new 8
  rw [show (⟨⟨min (max (8 : Int) 1) 1048576, [(0, min (max (8 : Int) 1) 1048576)], fun _ => [], 0⟩, ⟨fun _ => 0, 0⟩, min (max (8 : Int) 1) 1048576, ⟨1, [], []⟩, [], ⟨2, [], []⟩, ⟨3, [], []⟩, [], []⟩ : Ar) = az0 ⟨fun _ => 0, 0⟩ from rfl]
  generalize (⟨fun _ => 0, 0⟩ : Mm) = m0 at hA0 ⊢
  repeat (first | refine Zq ?_ | refine Zs ?_ | refine ZT ?_ | refine ZF ?_ | refine Zc ?_ | refine XO_gU (hk := ?_))
  refine XO_call (ar_create x _ hA0 (by decide) 0 (by decide) (by decide) (.inl rfl)) (hk := ?_)
  rintro _ _ ⟨r, rfl, rfl⟩
  have hA1 := hA0.created (by decide) (p := 0) (.inl rfl) r
  rw [aze1] at hA1 ⊢
  rw [azh0]
  repeat (first | refine Zq ?_ | refine Zs ?_ | refine ZT ?_ | refine ZF ?_ | refine Zc ?_ | refine XO_gU (hk := ?_))
  obtain ⟨C1, m1, a1, rfl⟩ := ara1 m0 aH
  refine XO_call (ar_alloc x (az1 r m0) hA1 (by decide) (i := 0) (b := r) (of_ := aH) (S := emptySh) rfl 10 1 (by decide) (by decide) (by decide) (by decide) a1) (hk := ?_)
  rintro _ _ ⟨rfl, rfl⟩
  have hA2 := hA1.alloced (by decide) (i := 0) (b := r) (of_ := aH) (S := emptySh) rfl (by decide) (by decide) (by decide) a1
  rw [if_pos rfl, azh1]
  rw [aze2] at hA2 ⊢
  repeat (first | refine Zq ?_ | refine Zs ?_ | refine ZT ?_ | refine ZF ?_ | refine Zc ?_ | refine XO_gU (hk := ?_))
  refine XO_call (ar_mark x (az2 r m1) hA2 (by decide) (i := 0) (b := r) (of_ := aH) (S := ars1) rfl) (hk := ?_)
  rintro _ _ ⟨rfl, rfl⟩
  have hA3 := hA2.marked (by decide) aH ars1
  rw [azh2]
  rw [aze3] at hA3 ⊢
  repeat (first | refine Zq ?_ | refine Zs ?_ | refine ZT ?_ | refine ZF ?_ | refine Zc ?_ | refine XO_gU (hk := ?_))
  have a2 := ara2 ark1 m1 aH
  refine XO_call (ar_alloc x (az3 r m1) hA3 (by decide) (i := 0) (b := r) (of_ := aH) (S := ars1) rfl 20 1 (by decide) (by decide) (by decide) (by decide) a2) (hk := ?_)
  rintro _ _ ⟨rfl, rfl⟩
  have hA4 := hA3.alloced (by decide) (i := 0) (b := r) (of_ := aH) (S := ars1) rfl (by decide) (by decide) (by decide) a2
  rw [if_pos rfl, azh3]
  rw [aze4] at hA4 ⊢
  repeat (first | refine Zq ?_ | refine Zs ?_ | refine ZT ?_ | refine ZF ?_ | refine Zc ?_ | refine XO_gU (hk := ?_))
  refine XO_call (ar_rew0 x (az4 r m1) hA4 (by decide) aK (by decide) (by decide) (azg r m1) (by decide) (i := 0) (b := r) (S := ars2) rfl (by intro y hy; rw [show ak1.of_ = aH from rfl, show ak1.tr.toNat = 2 from rfl, azr] at hy; simp at hy; subst hy; intro hh; exact absurd hh (by decide +kernel)) ara3.1 (by decide) (by decide)) (hk := ?_)
  rintro _ _ ⟨rfl, rfl⟩
  have hA5 := hA4.rew (by decide) (i := 0) (b := r) (k := ak1) (S := ars2) rfl ara3.1 (by decide) (by decide) (by decide)
  rw [aze5] at hA5 ⊢
  generalize rewM 8 m1 ars2 1 0 42 = m2 at hA5 ⊢
  repeat (first | refine Zq ?_ | refine Zs ?_ | refine ZT ?_ | refine ZF ?_ | refine Zc ?_ | refine XO_gU (hk := ?_))
  refine XO_call (ar_read_no x (az5 r m2) hA5 aO2 0 1 (by decide) (by decide) (by decide) (by decide) (by decide) (by decide) (by rw [azd2]; decide)) (hk := ?_)
  rintro _ _ ⟨rfl, rfl⟩
  rw [azd2]
  repeat (first | refine Zq ?_ | refine Zs ?_ | refine ZT ?_ | refine ZF ?_ | refine Zc ?_ | refine XO_gU (hk := ?_))
  refine XO_call (ar_read_ok x (az5 r m2) hA5 aO1 0 10 (by decide) (by decide) (by decide) (by decide) (by decide) (by decide) (azd1 r m2)) (hk := ?_)
  rintro _ _ ⟨ob, rfl, rfl⟩
  have hA6 : AOk _ { az5 r m2 with m := ldM (az5 r m2).m (inH (az5 r m2) aO1 0 10).1 10 } := hA5.mem rfl
  rw [show ({ az5 r m2 with m := ldM (az5 r m2).m (inH (az5 r m2) aO1 0 10).1 10 } : Ar) = az5 r (ldM (az5 r m2).m (inH (az5 r m2) aO1 0 10).1 10) from rfl] at hA6 ⊢
  generalize ldM (az5 r m2).m (inH (az5 r m2) aO1 0 10).1 10 = m3 at hA6 ⊢
  repeat (first | refine Zq ?_ | refine Zs ?_ | refine ZT ?_ | refine ZF ?_ | refine Zc ?_ | refine XO_gU (hk := ?_))
  refine XO_call (ar_meter x (az5 r m3) hA6) (hk := ?_)
  rintro _ _ ⟨rfl, rfl⟩
  refine XO_gT (hk := ?_)
  refine XO_pv (pv_fieldV (v := .int .u64 (IntKind.u64.wrap (sumH Sh.obj (az5 r m3) (az5 r m3).reg.handles.length)))) (hk := ?_)
  rw [azm]
  repeat (first | refine Zq ?_ | refine Zs ?_ | refine ZT ?_ | refine ZF ?_ | refine Zc ?_ | refine XO_gU (hk := ?_))
  refine XE_ret (.inl rfl) (tells_tmps rfl rfl) ⟨_, ⟨rfl, rfl⟩, by ((try simp only [List.cons_append, List.nil_append]); repeat (first | exact ent_refl | refine ent_take (by repeat (first | exact Find.here | apply Find.there)) ?_ | refine ent_drop ?_))⟩
end Go.Proofs.YtamecmklcnohjaaGreat.Sep
namespace Go.Proofs.YtamecmklcnohjaaGreat.Sep
open Go.RowKit
set_option linter.unusedSimpArgs false
set_option linter.unusedVariables false
/-! what lies behind a page is free: there is room -/
theorem cnt_lo {P x : Int} : ∀ {l : List (Int × Int)} {lo : Int}, RightFrom P lo l → x < lo → cnt x l = 0
  | [], _, _, _ => rfl
  | r :: l, lo, ⟨h1, h2, h3, h4⟩, hx => by
    have := cnt_lo h4 (x := x) (by omega)
    have h0 : ind x r = 0 := by unfold ind; rw [if_neg (by omega)]
    simp only [cnt]; omega
/-- Pages that are all free lie in one run. -/
theorem span {P a b : Int} (hab : a < b) : ∀ {l : List (Int × Int)} {lo : Int}, RightFrom P lo l → (∀ x, a ≤ x → x < b → 1 ≤ cnt x l) → ∃ r ∈ l, r.1 ≤ a ∧ b ≤ r.1 + r.2
  | [], _, _, h => by have := h a (Int.le_refl _) hab; simp [cnt] at this
  | r :: l, lo, ⟨h1, h2, h3, h4⟩, h => by
    by_cases ha : r.1 + r.2 ≤ a
    · obtain ⟨q, hq, h5⟩ := span hab h4 (fun x hx hxb => by
        have := h x hx hxb
        have h0 : ind x r = 0 := by unfold ind; rw [if_neg (by omega)]
        simp only [cnt] at this; omega)
      exact ⟨q, by simp [hq], h5⟩
    · have h6 : r.1 ≤ a := by
        by_cases h7 : r.1 ≤ a
        · exact h7
        · exfalso
          have h8 := h a (Int.le_refl _) hab
          have h0 : ind a r = 0 := by unfold ind; rw [if_neg (by omega)]
          have := cnt_lo h4 (x := a) (by omega)
          simp only [cnt] at h8; omega
      refine ⟨r, by simp, h6, ?_⟩
      by_cases h7 : b ≤ r.1 + r.2
      · exact h7
      · exfalso
        have h8 := h (r.1 + r.2) (by omega) (by omega)
        have h0 : ind (r.1 + r.2) r = 0 := by unfold ind; rw [if_neg (by omega)]
        have := cnt_lo h4 (x := r.1 + r.2) (by omega)
        simp only [cnt] at h8; omega
/-- Ahead of a run no page is free. -/
theorem start0 {P : Int} : ∀ {l : List (Int × Int)} {lo : Int}, RightFrom P lo l → ∀ r ∈ l, cnt (r.1 - 1) l = 0
  | [], _, _, r, hr => by cases hr
  | q :: l, lo, ⟨h1, h2, h3, h4⟩, r, hr => by
    rcases List.mem_cons.1 hr with rfl | hr
    · have h0 : ind (r.1 - 1) r = 0 := by unfold ind; rw [if_neg (by omega)]
      have := cnt_lo h4 (x := r.1 - 1) (by omega)
      simp only [cnt]; omega
    · have hm := rf_mem h4 r hr
      have h0 : ind (r.1 - 1) q = 0 := by unfold ind; rw [if_neg (by omega)]
      have := start0 h4 r hr
      simp only [cnt]; omega
def HW (C : Co) (B : Int) : Prop := ∀ x, B ≤ x → x < C.P → 1 ≤ cnt x C.fr
theorem HW.up {C : Co} {B B' : Int} (h : HW C B) (hB : B ≤ B') : HW C B' := fun x h1 h2 => h x (by omega) h2
theorem hw_new (P : Int) (k : Nat → List Int) (t : Int) : HW ⟨P, [(0, P)], k, t⟩ 0 := fun x h1 h2 => by
  show 1 ≤ cnt x [(0, P)]
  have h2 : x < P := h2
  have h0 : ind x (0, P) = 1 := by unfold ind; rw [if_pos]; simp only; omega
  simp only [cnt]; omega
theorem hw_trim {C : Co} {m : Int → Int} {got : List (Int × Hd)} {B : Int} (h : KInv C m got) (hw : HW C B) : HW (trimC C) B := fun x h1 h2 => by
  obtain ⟨-, g2, -⟩ := trim_inv h.ci h.le
  have h3 : cC x (trimC C) = cnt x (trimC C).fr := by
    show cnt x (trimC C).fr + cnt x (kall (fun _ => []) 7) = _
    rw [kall_nil]; simp [cnt]
  have h4 := g2 x
  rw [h3] at h4
  have h5 := hw x h1 h2
  have h6 := cnt_nn x (kall C.ks 7)
  unfold cC at h4
  omega
theorem take_hw {C : Co} {n B : Int} (hC : CoOk C) (hw : HW C B) (h0 : 0 ≤ B) (hn : 1 ≤ n) : HW (takeC C n).1 (B + n) := by
  unfold takeC
  rw [if_neg (by omega)]
  cases ht : takeI C.fr n with
  | none => exact hw.up (by omega)
  | some q =>
    obtain ⟨p, ys⟩ := q
    obtain ⟨g1, g2, g3, g4, g5, g6⟩ := takeI_right hC.right ht
    have hp : ∃ r ∈ C.fr, p = r.1 := by
      unfold takeI at ht
      cases hb : bestU C.fr n C.fr.length with
      | none => rw [hb] at ht; cases ht
      | some i =>
        rw [hb, Option.map_some, Option.some.injEq] at ht
        have hi := bestU_lt hb
        have hg : C.fr.getD i (0, 0) = C.fr[i] := by simp [List.getD, hi]
        have hp : p = (C.fr.getD i (0, 0)).1 := by rw [takeAt] at ht; exact (Prod.mk.inj ht).1.symm
        rw [hg] at hp
        exact ⟨_, List.getElem_mem hi, hp⟩
    obtain ⟨r, hr, hp⟩ := hp
    have hs := start0 hC.right r hr
    have hle : p ≤ B := by
      by_cases hle : p ≤ B
      · exact hle
      · exfalso
        have := hw (r.1 - 1) (by omega) (by omega)
        omega
    intro x h1 h2
    have h3 := g5 x
    have h4 : ind x (p, n) = 0 := by unfold ind; rw [if_neg]; simp only; omega
    have h5 := hw x (by omega) h2
    show 1 ≤ cnt x ys
    omega
theorem hw_get {C : Co} {m : Int → Int} {got : List (Int × Hd)} {B n : Int} (h : KInv C m got) (hw : HW C B) (h0 : 0 ≤ B) (hn : 1 ≤ n) (hB : B + n ≤ C.P) : (getC C n).2.2 = 0 ∧ HW (getC C n).1 (B + n) := by
  constructor
  · by_cases hz : (getC C n).2.2 = 0
    · exact hz
    · exfalso
      obtain ⟨-, -, h3⟩ := get_full h.ci.ok hn hz
      have ht := hw_trim h hw
      have hr := (ktrim h).ci.ok.right
      obtain ⟨r, hr1, hr2, hr3⟩ := span (a := B) (b := C.P) (by omega) hr (fun x h1 h2 => ht x h1 h2)
      have := h3 r hr1
      omega
  · unfold getC
    split
    · exact hw.up (by omega)
    · split
      · split
        · exact take_hw (ktrim h).ci.ok (hw_trim h hw) h0 hn
        · exact (hw_trim h hw).up (by omega)
      · exact take_hw h.ci.ok hw h0 hn
end Go.Proofs.YtamecmklcnohjaaGreat.Sep
namespace Go.Proofs.YtamecmklcnohjaaGreat.Sep
open Go.RowKit
set_option linter.unusedSimpArgs false
set_option linter.unusedVariables false
/-! arenas: objects and marks of one region, and what is left of them behind a rewind -/
structure Rc where
  o : Int
  h : Int
  at_ : Int
  sz : Int
  k : MkT
  S : Sh
def trl (L : List Rc) : List Int := L.flatMap fun r => [r.o, r.h]
theorem trl_cons (r : Rc) (L : List Rc) : trl (r :: L) = r.o :: r.h :: trl L := rfl
theorem trl_app (L K : List Rc) : trl (L ++ K) = trl L ++ trl K := by unfold trl; exact List.flatMap_append
theorem trl_len : ∀ L : List Rc, (trl L).length = 2 * L.length
  | [] => rfl
  | r :: L => by rw [trl_cons]; simp only [List.length_cons]; rw [trl_len L]; omega
theorem trl_take : ∀ (L : List Rc) (n : Nat), (trl L).take (2 * n) = trl (L.take n)
  | [], n => by simp [trl]
  | r :: L, 0 => by simp [trl]
  | r :: L, n + 1 => by
    rw [trl_cons, List.take_succ_cons, trl_cons, show 2 * (n + 1) = 2 * n + 1 + 1 from by omega, List.take_succ_cons, List.take_succ_cons, trl_take L n]
theorem trl_drop : ∀ (L : List Rc) (n : Nat), (trl L).drop (2 * n) = trl (L.drop n)
  | [], n => by simp [trl]
  | r :: L, 0 => rfl
  | r :: L, n + 1 => by
    rw [trl_cons, List.drop_succ_cons, show 2 * (n + 1) = 2 * n + 1 + 1 from by omega, List.drop_succ_cons, List.drop_succ_cons, trl_drop L n]
theorem trl_mem {L : List Rc} {x : Int} : x ∈ trl L ↔ ∃ r ∈ L, x = r.o ∨ x = r.h := by
  unfold trl; rw [List.mem_flatMap]; simp
theorem giveH_obj {N : Nat} {z : Ar} (h : AOk N z) {x : Int} (x0 : 0 ≤ x) (x1 : x ≤ 18446744073709551615) {y : Int} (y0 : 0 ≤ y) (y1 : y ≤ 18446744073709551615) : (z.giveH x).obj.get y = if y = x ∧ hKind y = 2 then none else z.obj.get y := by
  unfold Ar.giveH
  split
  · rename_i hk; rw [if_neg (by rintro ⟨rfl, e⟩; omega)]
  · split
    · rename_i hk
      show (z.obj.drop (0, 0, 0) x).get y = _
      rw [Tb.get_drop h.ob (0, 0, 0) y0 y1 x0 x1]
      by_cases he : y = x
      · rw [if_pos he, if_pos ⟨he, by rw [he]; exact hk⟩]
      · rw [if_neg he, if_neg (fun hh => he hh.1)]
    · rename_i hk; rw [if_neg (by rintro ⟨rfl, e⟩; exact hk e)]
theorem giveH_mar {N : Nat} {z : Ar} (h : AOk N z) {x : Int} (x0 : 0 ≤ x) (x1 : x ≤ 18446744073709551615) {y : Int} (y0 : 0 ≤ y) (y1 : y ≤ 18446744073709551615) : (z.giveH x).mar.get y = if y = x ∧ hKind y ≠ 1 ∧ hKind y ≠ 2 then none else z.mar.get y := by
  unfold Ar.giveH
  split
  · rename_i hk; rw [if_neg (by rintro ⟨rfl, e, -⟩; exact e hk)]
  · split
    · rename_i hk; rw [if_neg (by rintro ⟨rfl, -, e⟩; exact e hk)]
    · rename_i hk1 hk
      show (z.mar.drop ⟨0, 0, 0, 0, 0, 0, 0⟩ x).get y = _
      rw [Tb.get_drop h.mr ⟨0, 0, 0, 0, 0, 0, 0⟩ y0 y1 x0 x1]
      by_cases he : y = x
      · rw [if_pos he, if_pos ⟨he, by rw [he]; exact hk1, by rw [he]; exact hk⟩]
      · rw [if_neg he, if_neg (fun hh => he hh.1)]
theorem fold_obj {l : List Int} (hb : ∀ x ∈ l, 0 ≤ x ∧ x ≤ 18446744073709551615) : ∀ {N : Nat} {z : Ar}, AOk N z → N + l.length ≤ 100000 → ∀ {y : Int}, 0 ≤ y → y ≤ 18446744073709551615 → (l.foldl Ar.giveH z).obj.get y = if y ∈ l ∧ hKind y = 2 then none else z.obj.get y := by
  induction l with
  | nil => intro N z _ _ y _ _; rw [if_neg (fun hh => by cases hh.1)]; rfl
  | cons x l ih =>
    intro N z h hN y y0 y1
    simp only [List.length_cons] at hN
    have hx := hb x (by simp)
    rw [List.foldl_cons, ih (fun y hy => hb y (by simp [hy])) (h.giveH (by omega) hx.1 hx.2) (by omega) y0 y1, giveH_obj h hx.1 hx.2 y0 y1]
    by_cases hk : hKind y = 2
    · by_cases h1 : y ∈ l
      · rw [if_pos ⟨h1, hk⟩, if_pos ⟨by simp [h1], hk⟩]
      · by_cases h2 : y = x
        · rw [if_neg (fun hh => h1 hh.1), if_pos ⟨h2, hk⟩, if_pos ⟨by simp [h2], hk⟩]
        · rw [if_neg (fun hh => h1 hh.1), if_neg (fun hh => h2 hh.1), if_neg (fun hh => (List.mem_cons.1 hh.1).elim h2 h1)]
    · rw [if_neg (fun hh => hk hh.2), if_neg (fun hh => hk hh.2), if_neg (fun hh => hk hh.2)]
theorem fold_mar {l : List Int} (hb : ∀ x ∈ l, 0 ≤ x ∧ x ≤ 18446744073709551615) : ∀ {N : Nat} {z : Ar}, AOk N z → N + l.length ≤ 100000 → ∀ {y : Int}, 0 ≤ y → y ≤ 18446744073709551615 → (l.foldl Ar.giveH z).mar.get y = if y ∈ l ∧ hKind y ≠ 1 ∧ hKind y ≠ 2 then none else z.mar.get y := by
  induction l with
  | nil => intro N z _ _ y _ _; rw [if_neg (fun hh => by cases hh.1)]; rfl
  | cons x l ih =>
    intro N z h hN y y0 y1
    simp only [List.length_cons] at hN
    have hx := hb x (by simp)
    rw [List.foldl_cons, ih (fun y hy => hb y (by simp [hy])) (h.giveH (by omega) hx.1 hx.2) (by omega) y0 y1, giveH_mar h hx.1 hx.2 y0 y1]
    by_cases hk : hKind y ≠ 1 ∧ hKind y ≠ 2
    · by_cases h1 : y ∈ l
      · rw [if_pos ⟨h1, hk⟩, if_pos ⟨by simp [h1], hk⟩]
      · by_cases h2 : y = x
        · rw [if_neg (fun hh => h1 hh.1), if_pos ⟨h2, hk⟩, if_pos ⟨by simp [h2], hk⟩]
        · rw [if_neg (fun hh => h1 hh.1), if_neg (fun hh => h2 hh.1), if_neg (fun hh => (List.mem_cons.1 hh.1).elim h2 h1)]
    · rw [if_neg (fun hh => hk hh.2), if_neg (fun hh => hk hh.2), if_neg (fun hh => hk hh.2)]
theorem AOk.giveN {N : Nat} {z : Ar} (h : AOk N z) {d : Nat} (hN : N + d ≤ 100000) (of_ : Int) (n : Nat) (hd : ((ofL z.rs of_).drop n).length ≤ d) : AOk (N + d) (z.give0 of_ n) := by
  have hbl : ∀ y ∈ ((ofL z.rs of_).drop n).reverse, 0 ≤ y ∧ y ≤ 18446744073709551615 := fun y hy => h.rb _ (ofL_val _ _ _ (List.mem_of_mem_drop (List.mem_reverse.1 hy)))
  have hll : ((ofL z.rs of_).drop n).reverse.length ≤ d := by rw [List.length_reverse]; exact hd
  exact (AOk.fold hbl (h.cut of_ n) (by omega)).le (by omega) hN
/-- As AOk.rew, but by how much was given up. -/
theorem AOk.rewN {N : Nat} {z : Ar} (h : AOk N z) {d : Nat} (hN : N + d + 1 ≤ 100000) {i b : Nat} {k : MkT} {S : Sh} (hd : ((ofL z.rs k.of_).drop k.tr.toNat).length ≤ d) (hq : z.M[i]? = some (b, k.of_, S)) (hf : fitsS S k.mc k.ml k.at_ = true) (ha0 : 0 ≤ k.at_) (ho : 0 ≤ k.ob ∧ k.ob ≤ 18446744073709551615) (hp : 0 ≤ k.pd ∧ k.pd ≤ 18446744073709551615) : AOk (N + d + 1) (z.rewound i b k S) := by
  show AOk (N + d + 1) { z.give0 k.of_ k.tr.toNat with C := putsC z.C S k.mc k.ml, m := rewM z.P z.m S k.mc k.ml k.at_, M := z.M.set i (b, k.of_, setTop (cutS S k.mc k.ml) k.at_ k.ob k.pd) }
  have hg := h.giveN (by omega) k.of_ k.tr.toNat hd
  have hfr := fold_reg ((ofL z.rs k.of_).drop k.tr.toNat).reverse { z with rs := cutW z.rs k.of_ k.tr.toNat }
  have hR := h.R.one hq
  rw [show (((ofL z.rs k.of_).drop k.tr.toNat).reverse.foldl Ar.giveH { z with rs := cutW z.rs k.of_ k.tr.toNat }) = z.give0 k.of_ k.tr.toNat from rfl] at hfr
  generalize z.give0 k.of_ k.tr.toNat = zg at hg hfr ⊢
  obtain ⟨f1, f2, f3, f4, f5, f6, f7⟩ := hfr
  dsimp only at f2 f5 hR
  have hr := rew_inv (ob := k.ob) (pd := k.pd) hR hf ha0 ho hp
  rw [← f2] at hq hr ⊢
  rw [← f5] at hr ⊢
  exact hg.shape (by omega) hq (hr.le (B' := N + d + 1) (by omega))
/-- So many were made, so many of them are live still. -/
structure MkI (z : Ar) (b : Nat) (L : List Rc) (c : Nat) (S : Sh) : Prop where
  q : z.M = [(b, aH, S)]
  rh : z.reg.handles = [aH]
  rs : ofL z.rs aH = trl (L.take c)
  ob : ∀ (i : Nat) (r : Rc), L[i]? = some r → z.obj.get r.o = if i < c then some (r.at_, r.sz, aH) else none
  mr : ∀ (i : Nat) (r : Rc), L[i]? = some r → z.mar.get r.h = if i < c then some r.k else none
  bo : ∀ r ∈ L, 0 ≤ r.o ∧ r.o ≤ 18446744073709551615 ∧ hKind r.o = 2
  bh : ∀ r ∈ L, 0 ≤ r.h ∧ r.h ≤ 18446744073709551615 ∧ hKind r.h = 3
  no : (L.map (·.o)).Nodup
  nh : (L.map (·.h)).Nodup
  km : ∀ (i : Nat) (r : Rc), L[i]? = some r → r.k = ⟨(r.S.parts.length : Int), (r.S.larges.length : Int), topAt r.S, r.S.obj, r.S.pad, aH, 2 * (i : Int) + 2⟩
  pw : L.Pairwise fun r r' => Grow r.S r'.S
  gr : ∀ r ∈ L.take c, Grow r.S S
  cu : ∀ r ∈ L, CurOk r.S ∧ (0 ≤ topAt r.S ∧ topAt r.S ≤ 18446744073709551615) ∧ (0 ≤ r.S.obj ∧ r.S.obj ≤ 18446744073709551615) ∧ (0 ≤ r.S.pad ∧ r.S.pad ≤ 18446744073709551615)
  fs : ∀ r, L[0]? = some r → r.S.obj = r.sz
  em : L = [] → S.obj = 0
theorem rc_ix {L : List Rc} {f : Rc → Int} (h : (L.map f).Nodup) {i j : Nat} {r s : Rc} (hi : L[i]? = some r) (hj : L[j]? = some s) (he : f r = f s) : i = j := by
  have h1 : i < (L.map f).length := by rw [List.length_map]; exact (List.getElem?_eq_some_iff.1 hi).1
  have h2 : (L.map f)[i]? = (L.map f)[j]? := by rw [List.getElem?_map, List.getElem?_map, hi, hj]; simp [he]
  exact (List.getElem?_inj h1 h).1 h2
/-- What holds behind a rewind. -/
theorem MkI.cut {N : Nat} {z : Ar} {b c : Nat} {L : List Rc} {S : Sh} (h : MkI z b L c S) (hA : AOk N z) (hc : c ≤ L.length) (hN : N + 2 * L.length + 1 ≤ 100000) {i : Nat} {r : Rc} (hr : L[i]? = some r) (hi : i < c) :
    z.mar.get r.h = some r.k ∧ 0 ≤ r.k.tr ∧ z.M[0]? = some (b, r.k.of_, S) ∧ (∀ y ∈ (ofL z.rs r.k.of_).drop r.k.tr.toNat, hKind y = 1 → z.reg.get y = none) ∧ fitsS S r.k.mc r.k.ml r.k.at_ = true ∧ 0 ≤ r.k.at_ ∧ r.k.at_ ≤ 18446744073709551615 ∧ AOk (N + 2 * L.length + 1) (z.rewound 0 b r.k S) ∧ MkI (z.rewound 0 b r.k S) b L (i + 1) r.S := by
  have hil := (List.getElem?_eq_some_iff.1 hr).1
  have hrm := List.mem_of_getElem? hr
  have hk := h.km i r hr
  obtain ⟨u1, u2, u3, u4⟩ := h.cu r hrm
  have hrt : r ∈ L.take c := List.mem_of_getElem? (show (L.take c)[i]? = some r by rw [List.getElem?_take, if_pos hi]; exact hr)
  obtain ⟨g1, g2⟩ := grow_fits (h.gr r hrt) u1
  have hof : r.k.of_ = aH := by rw [hk]
  have htr : r.k.tr.toNat = 2 * (i + 1) := by rw [hk]; show (2 * (i : Int) + 2).toNat = _; omega
  have hq0 : z.M[0]? = some (b, r.k.of_, S) := by rw [h.q, hof]; rfl
  have hdr : (ofL z.rs r.k.of_).drop r.k.tr.toNat = trl ((L.take c).drop (i + 1)) := by rw [hof, htr, h.rs, trl_drop]
  have hfit : fitsS S r.k.mc r.k.ml r.k.at_ = true := by rw [hk]; exact g1
  have hat : 0 ≤ r.k.at_ ∧ r.k.at_ ≤ 18446744073709551615 := by rw [hk]; exact u2
  have hob : 0 ≤ r.k.ob ∧ r.k.ob ≤ 18446744073709551615 := by rw [hk]; exact u3
  have hpd : 0 ≤ r.k.pd ∧ r.k.pd ≤ 18446744073709551615 := by rw [hk]; exact u4
  have hlen : ((ofL z.rs r.k.of_).drop r.k.tr.toNat).length ≤ 2 * L.length := by
    rw [hdr, trl_len, List.length_drop, List.length_take]; omega
  have hsub : ∀ s ∈ (L.take c).drop (i + 1), s ∈ L := fun s hs => List.mem_of_mem_take (List.mem_of_mem_drop hs)
  have hlb : ∀ y ∈ ((ofL z.rs r.k.of_).drop r.k.tr.toNat).reverse, 0 ≤ y ∧ y ≤ 18446744073709551615 := fun y hy => hA.rb _ (ofL_val _ _ _ (List.mem_of_mem_drop (List.mem_reverse.1 hy)))
  have hll : N + ((ofL z.rs r.k.of_).drop r.k.tr.toNat).reverse.length ≤ 100000 := by rw [List.length_reverse]; omega
  have hAc := hA.cut r.k.of_ r.k.tr.toNat
  have hfr := fold_reg ((ofL z.rs r.k.of_).drop r.k.tr.toNat).reverse { z with rs := cutW z.rs r.k.of_ r.k.tr.toNat }
  have hfo := fun {y : Int} => fold_obj hlb hAc hll (y := y)
  have hfm := fun {y : Int} => fold_mar hlb hAc hll (y := y)
  refine ⟨by rw [h.mr i r hr, if_pos hi], by rw [hk]; show (0 : Int) ≤ 2 * (i : Int) + 2; omega, hq0, fun y hy h1 => ?_, hfit, hat.1, hat.2, hA.rewN hN hlen hq0 hfit hat.1 hob hpd, ?_⟩
  · rw [hdr, trl_mem] at hy
    obtain ⟨s, hs, e⟩ := hy
    have b1 := h.bo s (hsub s hs)
    have b2 := h.bh s (hsub s hs)
    rcases e with rfl | rfl <;> omega
  · have dead : ∀ (j : Nat) (s : Rc), L[j]? = some s → (s ∈ (L.take c).drop (i + 1) ↔ i + 1 ≤ j ∧ j < c) := fun j s hs => by
      constructor
      · intro hm
        obtain ⟨n, hn⟩ := List.getElem?_of_mem hm
        rw [List.getElem?_drop, List.getElem?_take] at hn
        split at hn
        · have := rc_ix h.no hs hn rfl
          omega
        · cases hn
      · intro hj
        refine List.mem_of_getElem? (i := j - (i + 1)) ?_
        rw [List.getElem?_drop, show i + 1 + (j - (i + 1)) = j from by omega, List.getElem?_take, if_pos hj.2]
        exact hs
    refine ⟨?_, ?_, ?_, fun j s hs => ?_, fun j s hs => ?_, h.bo, h.bh, h.no, h.nh, h.km, h.pw, fun s hs => ?_, h.cu, h.fs, fun e => by rw [e] at hr; cases hr⟩
    · show z.M.set 0 (b, r.k.of_, setTop (cutS S r.k.mc r.k.ml) r.k.at_ r.k.ob r.k.pd) = _
      rw [h.q, hk]
      show [(b, aH, setTop (cutS S r.S.parts.length r.S.larges.length) (topAt r.S) r.S.obj r.S.pad)] = _
      rw [g2]
    · show (((ofL z.rs r.k.of_).drop r.k.tr.toNat).reverse.foldl Ar.giveH { z with rs := cutW z.rs r.k.of_ r.k.tr.toNat }).reg.handles = _
      rw [hfr.1]; exact h.rh
    · show ofL (((ofL z.rs r.k.of_).drop r.k.tr.toNat).reverse.foldl Ar.giveH { z with rs := cutW z.rs r.k.of_ r.k.tr.toNat }).rs aH = _
      rw [hfr.2.2.2.2.2.2]
      show ofL (cutW z.rs r.k.of_ r.k.tr.toNat) aH = _
      rw [hof, ofL_cutW, htr, h.rs, trl_take, List.take_take, Nat.min_eq_left (by omega)]
    · have hsm := List.mem_of_getElem? hs
      have b1 := h.bo s hsm
      show (((ofL z.rs r.k.of_).drop r.k.tr.toNat).reverse.foldl Ar.giveH { z with rs := cutW z.rs r.k.of_ r.k.tr.toNat }).obj.get s.o = _
      rw [hfo b1.1 b1.2.1]
      show (if _ then none else z.obj.get s.o) = _
      rw [h.ob j s hs]
      have hiff : s.o ∈ ((ofL z.rs r.k.of_).drop r.k.tr.toNat).reverse ↔ i + 1 ≤ j ∧ j < c := by
        rw [List.mem_reverse, hdr, trl_mem, ← dead j s hs]
        constructor
        · rintro ⟨t, ht, e⟩
          have b2 := h.bh t (hsub t ht)
          rcases e with e | e
          · obtain ⟨n, hn⟩ := List.getElem?_of_mem (hsub t ht)
            have := rc_ix h.no hs hn e
            subst this
            rw [hs] at hn; cases hn; exact ht
          · rw [← e] at b2; omega
        · exact fun hm => ⟨s, hm, .inl rfl⟩
      by_cases h1 : j < i + 1
      · rw [if_neg (fun hh => by have := hiff.1 hh.1; omega), if_pos (by omega), if_pos h1]
      · rw [if_neg (c := j < i + 1) h1]
        by_cases h2 : j < c
        · rw [if_pos ⟨hiff.2 ⟨by omega, h2⟩, b1.2.2⟩]
        · rw [if_neg (c := j < c) h2]; split <;> rfl
    · have hsm := List.mem_of_getElem? hs
      have b1 := h.bh s hsm
      show (((ofL z.rs r.k.of_).drop r.k.tr.toNat).reverse.foldl Ar.giveH { z with rs := cutW z.rs r.k.of_ r.k.tr.toNat }).mar.get s.h = _
      rw [hfm b1.1 b1.2.1]
      show (if _ then none else z.mar.get s.h) = _
      rw [h.mr j s hs]
      have hiff : s.h ∈ ((ofL z.rs r.k.of_).drop r.k.tr.toNat).reverse ↔ i + 1 ≤ j ∧ j < c := by
        rw [List.mem_reverse, hdr, trl_mem, ← dead j s hs]
        constructor
        · rintro ⟨t, ht, e⟩
          have b2 := h.bo t (hsub t ht)
          rcases e with e | e
          · rw [← e] at b2; omega
          · obtain ⟨n, hn⟩ := List.getElem?_of_mem (hsub t ht)
            have := rc_ix h.nh hs hn e
            subst this
            rw [hs] at hn; cases hn; exact ht
        · exact fun hm => ⟨s, hm, .inr rfl⟩
      by_cases h1 : j < i + 1
      · rw [if_neg (fun hh => by have := hiff.1 hh.1; omega), if_pos (by omega), if_pos h1]
      · rw [if_neg (c := j < i + 1) h1]
        by_cases h2 : j < c
        · rw [if_pos ⟨hiff.2 ⟨by omega, h2⟩, by omega, by omega⟩]
        · rw [if_neg (c := j < c) h2]; split <;> rfl
    · obtain ⟨j, hj⟩ := List.getElem?_of_mem hs
      rw [List.getElem?_take] at hj
      split at hj
      · by_cases hji : j = i
        · subst hji
          rw [hr] at hj; cases hj
          exact Grow.refl _
        · have hjl := (List.getElem?_eq_some_iff.1 hj)
          have hrl := (List.getElem?_eq_some_iff.1 hr)
          obtain ⟨p1, p2⟩ := hjl
          obtain ⟨p3, p4⟩ := hrl
          have := List.pairwise_iff_getElem.1 h.pw j i p1 p3 (by omega)
          rw [p2, p4] at this
          exact this
      · cases hj
/-- What holds behind an object and a mark that were made. -/
theorem MkI.made {N : Nat} {z : Ar} {b : Nat} {L : List Rc} {S : Sh} (h : MkI z b L L.length S) (hA : AOk N z) (hN : N + 2 ≤ 100000) {size : Int} (h0 : 1 ≤ size) (h1 : size ≤ 18446744073709551615) {C' : Co} {m' : Mm} {S' : Sh} {at_ : Int} (har : AR z.P z.C z.m S aH size 1 C' m' S' at_ 0) (hob : S'.obj = IntKind.u64.wrap (S.obj + size)) :
    z.M[0]? = some (b, aH, S) ∧ (z.alloced 0 b aH size C' m' S' at_ 0).M[0]? = some (b, aH, S') ∧ AOk (N + 1) (z.alloced 0 b aH size C' m' S' at_ 0) ∧ AOk (N + 2) ((z.alloced 0 b aH size C' m' S' at_ 0).marked aH S') ∧
      MkI ((z.alloced 0 b aH size C' m' S' at_ 0).marked aH S') b (L ++ [⟨z.obj.addH, z.mar.addH, at_, size, mkOf (z.alloced 0 b aH size C' m' S' at_ 0) aH S', S'⟩]) (L.length + 1) S' := by
  have hM : z.M[0]? = some (b, aH, S) := by rw [h.q]; rfl
  have hM' : (z.alloced 0 b aH size C' m' S' at_ 0).M[0]? = some (b, aH, S') := by
    show (z.M.set 0 (b, aH, S'))[0]? = _
    rw [h.q]; rfl
  have hR := hA.R.one hM
  have hA1 := hA.alloced (by omega) hM (by omega) (by decide) (by decide) har
  have hA2 := hA1.marked (by omega) aH S'
  have hR' := hA1.R.one hM'
  dsimp only at hR hR'
  have hao : (0 : Int) ≤ aH ∧ aH < 18446744073709551616 := by decide +kernel
  have htb := top_bd hR'.S.ok
  have o1 := Tb.addH_bd hA.ob
  have o2 := Tb.addH_new hA.ob
  have o3 := (Tb.addH_parts hA.ob).1
  have m1 := Tb.addH_bd hA.mr
  have m2 := Tb.addH_new hA.mr
  have m3 := (Tb.addH_parts hA.mr).1
  have eo : ∀ {y : Int}, 0 ≤ y → y ≤ 18446744073709551615 → ((z.alloced 0 b aH size C' m' S' at_ 0).marked aH S').obj.get y = if y = z.obj.addH then some (at_, size, aH) else z.obj.get y := fun y0 y1 => Tb.get_add hA.ob _ y0 y1
  have em : ∀ {y : Int}, 0 ≤ y → y ≤ 18446744073709551615 → ((z.alloced 0 b aH size C' m' S' at_ 0).marked aH S').mar.get y = if y = z.mar.addH then some (mkOf (z.alloced 0 b aH size C' m' S' at_ 0) aH S') else z.mar.get y := fun y0 y1 => Tb.get_add hA.mr _ y0 y1
  have hgrow : ∀ r ∈ L, Grow r.S S' := fun r hr => har.grow hR hao (by omega) (by decide) (by decide) (h.gr r (by rw [List.take_length]; exact hr))
  have hlo : ∀ r ∈ L, r.o ≠ z.obj.addH := fun r hr e => by
    obtain ⟨j, hj⟩ := List.getElem?_of_mem hr
    have := h.ob j r hj
    rw [if_pos (List.getElem?_eq_some_iff.1 hj).1, e, o2] at this
    cases this
  have hlh : ∀ r ∈ L, r.h ≠ z.mar.addH := fun r hr e => by
    obtain ⟨j, hj⟩ := List.getElem?_of_mem hr
    have := h.mr j r hj
    rw [if_pos (List.getElem?_eq_some_iff.1 hj).1, e, m2] at this
    cases this
  have hix : ∀ (j : Nat) (r x : Rc), (L ++ [x])[j]? = some r → (j < L.length ∧ L[j]? = some r) ∨ (j = L.length ∧ r = x) := fun j r x hj => by
    by_cases hl : j < L.length
    · rw [List.getElem?_append_left hl] at hj; exact .inl ⟨hl, hj⟩
    · rw [List.getElem?_append_right (by omega)] at hj
      have : j - L.length = 0 := by
        by_cases e : j - L.length = 0
        · exact e
        · rw [List.getElem?_eq_none (by simp; omega)] at hj; cases hj
      rw [this] at hj
      simp at hj
      exact .inr ⟨by omega, hj.symm⟩
  have hlen : (ofL (z.alloced 0 b aH size C' m' S' at_ 0).rs aH).length = 2 * L.length + 1 := by
    show (ofL (z.rs ++ [(aH, z.obj.addH)]) aH).length = _
    rw [ofL_append, List.length_append, h.rs, List.take_length, trl_len]
    simp [ofL]
  refine ⟨hM, hM', hA1, hA2, ?_, h.rh, ?_, fun j r hj => ?_, fun j r hj => ?_, fun r hr => ?_, fun r hr => ?_, ?_, ?_, fun j r hj => ?_, ?_, fun r hr => ?_, fun r hr => ?_, fun r hr => ?_, fun e => by simp at e⟩
  · show z.M.set 0 (b, aH, S') = _
    rw [h.q]; rfl
  · show ofL ((z.rs ++ [(aH, z.obj.addH)]) ++ [(aH, z.mar.addH)]) aH = _
    rw [ofL_append, ofL_append, h.rs, List.take_length, show L.length + 1 = (L ++ [_]).length from by rw [List.length_append]; rfl, List.take_length, trl_app]
    simp [ofL, trl]
  · rcases hix j r _ hj with ⟨q1, q2⟩ | ⟨q1, q2⟩
    · have hrm := List.mem_of_getElem? q2
      have b1 := h.bo r hrm
      rw [eo b1.1 b1.2.1, if_neg (hlo r hrm), h.ob j r q2, if_pos q1, if_pos (by omega)]
    · subst q2
      rw [eo o1.1 o1.2, if_pos rfl, if_pos (by omega)]
  · rcases hix j r _ hj with ⟨q1, q2⟩ | ⟨q1, q2⟩
    · have hrm := List.mem_of_getElem? q2
      have b1 := h.bh r hrm
      rw [em b1.1 b1.2.1, if_neg (hlh r hrm), h.mr j r q2, if_pos q1, if_pos (by omega)]
    · subst q2
      rw [em m1.1 m1.2, if_pos rfl, if_pos (by omega)]
  · rcases List.mem_append.1 hr with hr | hr
    · exact h.bo r hr
    · simp at hr; subst hr; exact ⟨o1.1, o1.2, by rw [o3]; exact hA.k2⟩
  · rcases List.mem_append.1 hr with hr | hr
    · exact h.bh r hr
    · simp at hr; subst hr; exact ⟨m1.1, m1.2, by rw [m3]; exact hA.k3⟩
  · rw [List.map_append, List.nodup_append]
    refine ⟨h.no, by simp, fun x hx y hy e => ?_⟩
    obtain ⟨r, hr, rfl⟩ := List.mem_map.1 hx
    simp at hy
    exact hlo r hr (e.trans hy)
  · rw [List.map_append, List.nodup_append]
    refine ⟨h.nh, by simp, fun x hx y hy e => ?_⟩
    obtain ⟨r, hr, rfl⟩ := List.mem_map.1 hx
    simp at hy
    exact hlh r hr (e.trans hy)
  · rcases hix j r _ hj with ⟨q1, q2⟩ | ⟨q1, q2⟩
    · exact h.km j r q2
    · subst q2
      show mkOf _ aH S' = _
      unfold mkOf
      rw [hlen, q1]
      have : (((2 * L.length + 1 : Nat) : Int) + 1) = 2 * (L.length : Int) + 2 := by omega
      rw [this]
  · rw [List.pairwise_append]
    refine ⟨h.pw, by simp, fun r hr s hs => ?_⟩
    simp at hs; subst hs
    exact hgrow r hr
  · rw [show L.length + 1 = (L ++ [_]).length from by rw [List.length_append]; rfl, List.take_length] at hr
    rcases List.mem_append.1 hr with hr | hr
    · exact hgrow r hr
    · simp at hr; subst hr; exact Grow.refl _
  · rcases List.mem_append.1 hr with hr | hr
    · exact h.cu r hr
    · simp at hr; subst hr
      exact ⟨hR'.curOk, ⟨htb.1, htb.2.1⟩, hR'.S.ok.obj, hR'.S.ok.pad⟩
  · rcases hix 0 r _ hr with ⟨q1, q2⟩ | ⟨q1, q2⟩
    · exact h.fs r q2
    · subst q2
      show S'.obj = size
      rw [hob, h.em (List.length_eq_zero_iff.1 q1.symm), Int.zero_add]
      exact wrap_u64 (by omega) (by omega)
theorem need_1 {size : Int} (h0 : 1 ≤ size) (h1 : size ≤ 65536) : needI size 1 = some ((32 + size + 4095) / 4096) := by
  unfold needI
  rw [if_neg (by omega), show upI 32 1 = some 32 from by decide]
  show (addI 32 size).map _ = _
  unfold addI
  rw [if_pos (by omega)]
  rfl
theorem not_bad1 {size : Int} (h0 : 1 ≤ size) : ¬ badA size 1 := fun h => by
  rcases h with h | h
  · omega
  · rw [show needI 1 1 = some 1 from by decide] at h; cases h
/-- Where there is room, what is asked for is made. -/
theorem AR.room {P : Int} {B : Nat} {o : Int} {C C' : Co} {m m' : Mm} {s s' : Sh} {oth : List (Int × Hd)} {size at_ e H : Int} (hR : RInv P B o C m.f s oth) (h0 : 1 ≤ size) (h1 : size ≤ 65536) (hH : HW C H) (hH0 : 0 ≤ H) (hHP : H + 64 ≤ P) (h : AR P C m s o size 1 C' m' s' at_ e) : e = 0 ∧ HW C' (H + 64) ∧ s'.obj = IntKind.u64.wrap (s.obj + size) := by
  have hnb := not_bad1 h0
  have hP := hR.P1
  have room : ∀ n big, chunkI size 1 = (n, big, true) → (getC C n).2.2 = 0 ∧ HW (getC C n).1 (H + 64) := fun n big hc => by
    have c1 := chunk_n (by omega) (by decide) hc
    have hn : n ≤ 64 := by
      have hr : RunOk 1048576 (0, n) := ⟨by show (0 : Int) ≤ 0; omega, c1.1, by show 0 + n ≤ 1048576; omega⟩
      obtain ⟨-, f2, f3, f4⟩ := chunk_fit (by omega) (by decide) (by decide) hnb hc (Int.le_refl _) hr
      split at f4 <;> omega
    obtain ⟨z1, z2⟩ := hw_get hR.K hH hH0 c1.1 (by rw [hR.hP]; omega)
    exact ⟨z1, z2.up (by omega)⟩
  cases h with
  | bad hb => exact absurd hb hnb
  | fit q _ _ => exact ⟨rfl, hH.up (by omega), rfl⟩
  | huge _ _ hc =>
    exfalso
    unfold chunkI at hc
    rw [need_1 h0 h1] at hc
    dsimp only at hc
    rw [if_neg (by omega), if_neg (by omega)] at hc
    cases hc
  | full n big _ _ hc hg => exact absurd (room n big hc).1 hg
  | big n pg _ _ hc _ => exact ⟨rfl, (room n true hc).2, rfl⟩
  | part n pg _ _ hc _ => exact ⟨rfl, (room n false hc).2, rfl⟩
theorem MkI.sum {z : Ar} {b c : Nat} {L : List Rc} {S : Sh} (h : MkI z b L c S) : sumH Sh.obj z z.reg.handles.length = S.obj := by
  unfold sumH shOf
  rw [h.rh, h.q]
  simp
theorem MkI.zero {z : Ar} {b : Nat} (h1 : z.M = [(b, aH, emptySh)]) (h2 : z.reg.handles = [aH]) (h3 : z.rs = []) : MkI z b [] 0 emptySh :=
  ⟨h1, h2, by rw [h3]; rfl, (fun i r h => by cases h), (fun i r h => by cases h), (fun r h => by cases h), (fun r h => by cases h), List.nodup_nil, List.nodup_nil, (fun i r h => by cases h), List.Pairwise.nil, (fun r h => by cases h), (fun r h => by cases h), (fun r h => by cases h), fun _ => rfl⟩
end Go.Proofs.YtamecmklcnohjaaGreat.Sep
namespace Go.Proofs.YtamecmklcnohjaaGreat.Sep
open Go.ChangeShapes Go.WideShapes Go.ChangeAt Go.RowKit Go.Deep
set_option linter.unusedSimpArgs false
set_option linter.unusedVariables false
/-! arguments that are slices of bools, or of flat structs with bools among their fields -/
/-- What a flat type's cells are. -/
def FlatP (P : Program) (t : TypeId) (n : Nat) (φ : List Value → Prop) : Prop :=
  P.cellsOf t = n ∧ ∀ (H : Type) (enc : TypeId × Value → H) (W : World) (base : Nat) (sp : Nat → Bool) (held : Bool) (fuel : Nat) (cs : List Value) (x : DataW H × List MemPlace), DataW.trod enc P W base sp held fuel t cs = some x → φ cs
def Parts : List Value → List (Nat × (List Value → Prop)) → Prop
  | cs, [] => cs = []
  | cs, q :: l => q.2 (cs.take q.1) ∧ Parts (cs.drop q.1) l
def FlatPs (P : Program) : Nat → List Field → List (Nat × (List Value → Prop)) → Prop
  | _, [], [] => True
  | o, f :: fs, q :: qs => f.offset = o ∧ FlatP P f.type q.1 q.2 ∧ FlatPs P (o + q.1) fs qs
  | _, _, _ => False
def sumN (qs : List (Nat × (List Value → Prop))) : Nat := (qs.map (·.1)).sum
section
variable {H : Type} {enc : TypeId × Value → H} {P : Program} {W : World} {b0 : Nat} {sp : Nat → Bool} {held : Bool}
end
end Go.Proofs.YtamecmklcnohjaaGreat.Sep
