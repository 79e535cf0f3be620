import Derived.Test.YteobjankkcdaoaaHeadD
namespace Go.Proofs.Yteobjankkcdaoaa.Sep
open Go.RowKit
set_option linter.unusedSimpArgs false
set_option linter.unusedVariables false
set_option linter.unusedSectionVars false
/-! headers that are laid: what may come up in any order -/
section
variable {P : Program} {w0 : World} {n : Nat} {Q : Exit → Act → World → Prop} {ops : Array Oper} {k : List KI} {D : Pend} {vl : List Nat} {e : Env} {L R : List HP} {i d : Nat} {ty : TypeId} {pos : String} {aft : Array Edge} {v : Value}
def XAny (C : Cx) (ops : Array Oper) (k : List KI) (D : Pend) (vl : List Nat) (e : Env) (L : List HP) : List Nat → Prop
  | [] => True
  | i :: l => (∃ o, ops[i]? = some o ∧ XDa C ops k D vl e L i o) ∧ XAny C ops k D vl e L l
theorem xany_mem {C : Cx} : ∀ {l : List Nat}, XAny C ops k D vl e L l → ∀ x ∈ l, ∃ o, ops[x]? = some o ∧ XDa C ops k D vl e L x o
  | i :: l, h, x, hx => by
    rcases List.mem_cons.1 hx with rfl | hx
    · exact h.1
    · exact xany_mem h.2 x hx
theorem XD_any {C : Cx} (rs : List Nat) (hr : readyV ops vl = rs) (hne : rs ≠ []) (h : XAny C ops k D vl e L rs) : XD C ops k D vl e L := by
  intro G
  have hc : ∀ x ∈ readyV ops vl, vl.contains x = false := fun x hx => by simpa using (mem_readyV.1 hx).1
  refine XD_act (fun x hx => ?_) (fun h0 => absurd (hr.symm.trans h0) hne) G
  obtain ⟨o, ho, ha⟩ := xany_mem h x (by rw [← hr]; exact hx)
  exact ha G (hc x hx) ho
theorem XD_three {C : Cx} {j l : Nat} {o o' o2 : Oper} (hr : readyV ops vl = [i, j, l] := by rfl) (ho : ops[i]? = some o := by rfl) (ho' : ops[j]? = some o' := by rfl) (ho2 : ops[l]? = some o2 := by rfl) (h : XDa C ops k D vl e L i o) (h' : XDa C ops k D vl e L j o') (h2 : XDa C ops k D vl e L l o2) : XD C ops k D vl e L :=
  XD_any _ hr (by simp) ⟨⟨_, ho, h⟩, ⟨_, ho', h'⟩, ⟨_, ho2, h2⟩, trivial⟩
theorem XD_four {C : Cx} {j l m : Nat} {o o' o2 o3 : Oper} (hr : readyV ops vl = [i, j, l, m] := by rfl) (ho : ops[i]? = some o := by rfl) (ho' : ops[j]? = some o' := by rfl) (ho2 : ops[l]? = some o2 := by rfl) (ho3 : ops[m]? = some o3 := by rfl) (h : XDa C ops k D vl e L i o) (h' : XDa C ops k D vl e L j o') (h2 : XDa C ops k D vl e L l o2) (h3 : XDa C ops k D vl e L m o3) : XD C ops k D vl e L :=
  XD_any _ hr (by simp) ⟨⟨_, ho, h⟩, ⟨_, ho', h'⟩, ⟨_, ho2, h2⟩, ⟨_, ho3, h3⟩, trivial⟩
/-- []byte of a literal: the same slice; nobody changes its array any more. -/
theorem dv_convSl {T el : TypeId} {x : Operand} {b m c : Nat} {bs : List Int} [hu : TU P T (.slice el)] [he : TU P el (.int .u8)] (hx : ev e x = some (.slice (some ⟨b, 0, none⟩) m c) := by rfl)
    (hf : Find L (Sl (eI .u8) (some ⟨b, 0, none⟩) c bs) R := by repeat (first | exact Find.here | apply Find.there)) : DV P w0 (.convert T T x) ty e L (fun v L' => v = .slice (some ⟨b, 0, none⟩) m c ∧ L' = Frz b bs :: R) := dv_of_run fun tm w pos aft h2 h3 => by
  have h3' := h3.find hf
  obtain ⟨H0, hA0, hle0⟩ := h3'.atom
  obtain ⟨hc, hsp, row, T', hrow, pre, post, hr, hp, hq⟩ := hA0
  simp only at hp hrow
  have hrw := hle0 _ _ hrow
  have hsh : w.shape? b = some (T', row.size) := by unfold World.shape?; rw [hrw]
  have hat : (w.freeze ⟨b, row.size, none⟩ 1).heap[b]? = some (.cells row T' (row.size, row.size + 1)) := by
    unfold World.freeze
    rw [if_neg (by decide)]
    simp only [Array.getElem?_modify, hrw, if_true, Option.map_some]
    rfl
  have hne : ∀ k, k ≠ b → (w.freeze ⟨b, row.size, none⟩ 1).heap[k]? = w.heap[k]? := fun k hk => by
    unfold World.freeze
    rw [if_neg (by decide)]
    simp only [Array.getElem?_modify, if_neg (Ne.symm hk)]
  refine ⟨.slice (some ⟨b, 0, none⟩) m c, w.freeze ⟨b, row.size, none⟩ 1, Frz b bs :: R, by simp [execOp, ev_sound h2 hx, convert, run_und hu.out, run_und he.out, markStringish, hsh], ⟨rfl, rfl⟩, ?_⟩
  refine Sat.turn1 (b := b) (o' := .cells row T' (row.size, row.size + 1)) h3' (fun H hH => ?_) rfl rfl rfl hat hne (fun H hH => ?_)
  · obtain ⟨_, _, row, T, hb, _⟩ := hH
    rw [hb]; simp
  · refine ⟨row, T', (row.size, row.size + 1), by simp, fun j v hj => ?_⟩
    have hpre : pre = [] := List.eq_nil_of_length_eq_zero hp
    have hlt : j < (flat (eI .u8) bs).length := (List.getElem?_eq_some_iff.1 hj).1
    rw [← Array.getElem?_toList, hr, hpre, List.nil_append, List.getElem?_append_left hlt]
    exact hj
/-- The same state, written otherwise. -/
theorem XD_perm {C : Cx} {D' : Pend} {vl' : List Nat} {e' : Env} {L' : List HP} (h : XD C ops k D' vl' e' L') (hv : ∀ x, x ∈ vl ↔ x ∈ vl') (he1 : ∀ t u, e'.get t = some u → e.get t = some u) (he2 : ∀ t u, e.get t = some u → e'.get t = some u)
    (hD1 : ∀ p ∈ D, p ∈ D') (hD2 : ∀ p ∈ D', p ∈ D) (hL1 : ∀ H, SL L H → SL L' H) (hL2 : ∀ H, SL L' H → SL L H) : XD C ops k D vl e L := by
  intro G fuel al tm w hS hs
  have hge : ∀ t, e'.get t = e.get t := fun t => by
    cases h1 : e'.get t with
    | some u => rw [he1 t u h1]
    | none => cases h2 : e.get t with
      | none => rfl
      | some u => rw [he2 t u h2] at h1; cases h1
  refine h ⟨G.wf, fun p hp => ?_, fun p hp o d ho hd => ?_, fun p hp => (hv _).1 (G.has p (hD2 p hp)), fun p hp => G.slot p (hD2 p hp), fun p hp q hq => G.nowar p (hD2 p hp) q (hD2 q hq), fun j hj o ho ed hed hb => (hv _).1 (G.closed j ((hv _).2 hj) o ho ed hed hb)⟩ fuel al tm w ⟨hS.size, hS.n, hS.count, fun j hj => (hv _).1 (hS.sub j hj), hS.done, fun j hj ha => ?_, fun t u ht => ?_⟩ (hs.map hL1)
  · intro o ho tm w ha hsat
    exact G.yields p (hD2 p hp) o ho tm w (restr_ext (fun t _ => hge t) ha) (fun hb => (hsat hb).map hL2)
  · rw [hge]; exact G.bound p (hD2 p hp) o d ho hd
  · obtain ⟨p, hp, e1⟩ := hS.over j ((hv _).2 hj) ha
    exact ⟨p, hD1 p hp, e1⟩
  · rcases hS.agree t u (he1 t u ht) with h1 | ⟨p, hp, h2⟩
    · exact .inl h1
    · exact .inr ⟨p, hD1 p hp, h2⟩
theorem XD_perm2 {C : Cx} {D' : Pend} {vl' : List Nat} {e' : Env} {L' : List HP} (h : XD C ops k D' vl' e' L') (hv : (vl.all (fun x => vl'.contains x) && vl'.all (fun x => vl.contains x)) = true := by kernel_rfl) (hD : D = D' := by kernel_rfl)
    (he1 : Env.sub e' e := by repeat (first | exact Env.sub_nil _ | refine Env.sub_cons rfl ?_)) (he2 : Env.sub e e' := by repeat (first | exact Env.sub_nil _ | refine Env.sub_cons rfl ?_)) (hL1 : ∀ H, SL L H → SL L' H := by ((try simp only [List.cons_append, List.nil_append]); repeat (first | exact ent_refl | refine ent_take (by repeat (first | exact Find.here | apply Find.there)) ?_ | refine ent_drop ?_))) (hL2 : ∀ H, SL L' H → SL L H := by ((try simp only [List.cons_append, List.nil_append]); repeat (first | exact ent_refl | refine ent_take (by repeat (first | exact Find.here | apply Find.there)) ?_ | refine ent_drop ?_))) : XD C ops k D vl e L := by
  subst hD
  rw [Bool.and_eq_true, List.all_eq_true, List.all_eq_true] at hv
  exact XD_perm h (fun x => ⟨fun hx => by simpa using hv.1 x hx, fun hx => by simpa using hv.2 x hx⟩) he1 he2 (fun p hp => hp) (fun p hp => hp) hL1 hL2
theorem XD_cut5 {C : Cx} (Dn : Pend) (vn : List Nat) (en : Nat → Nat → Nat → Nat → Nat → Env) (Ln : Nat → Nat → Nat → Nat → Nat → List HP) (h1 : ∀ b1 b2 b3 b4 b5, XD C ops k Dn vn (en b1 b2 b3 b4 b5) (Ln b1 b2 b3 b4 b5))
    (h2 : (∀ b1 b2 b3 b4 b5, XD C ops k Dn vn (en b1 b2 b3 b4 b5) (Ln b1 b2 b3 b4 b5)) → XD C ops k D vl e L) : XD C ops k D vl e L := h2 h1
end
set_option maxHeartbeats 8000000
attribute [local irreducible] X XE XO XD XDi XDa PV RV DV pt base Spec Sl Mp Keeps Pgs Spc
end Go.Proofs.Yteobjankkcdaoaa.Sep
