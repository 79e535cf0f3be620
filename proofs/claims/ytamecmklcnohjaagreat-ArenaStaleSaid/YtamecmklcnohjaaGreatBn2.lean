import Derived.Test.YtamecmklcnohjaaGreatBn1
import Derived.Test.YtamecmklcnohjaaGreatRows
import Derived.WalkKit
import Derived.ProofKit
import Derived.OpenShut
import Derived.ShutString
import Derived.ChangeOld
import Derived.ChangeSame
import Derived.ChangeSlices
import Derived.Carry
import Derived.Below
import Derived.SizedLaws
import Derived.Deep.Slices
import Derived.Deep.Fields
import Derived.Deep.Grids
/- What the laws share: a separation logic over the model, and what the program's functions do, by it. Part 2 of 15: SepX Row RowF RowV RowW SepM. -/
namespace Go.Proofs.YtamecmklcnohjaaGreat.Sep
open Go.RowKit
set_option linter.unusedSimpArgs false
set_option linter.unusedVariables false

def bnd (ed : Edge) : Bool := Region.binds .any ed
def depsIn (o : Oper) (vl : List Nat) : Bool := o.after.toList.all fun ed => !bnd ed || vl.contains ed.on
def readyV (ops : Array Oper) (vl : List Nat) : List Nat :=
  (List.range ops.size).filter fun i => !vl.contains i && (match ops[i]? with | some o => depsIn o vl | none => false)
def restr (e : Env) (ts : List Nat) : Env := e.filter fun p => ts.contains p.1
theorem restr_get (e : Env) (ts : List Nat) (t : Nat) : (restr e ts).get t = if ts.contains t then e.get t else none := by
  induction e with
  | nil => simp [restr, Env.get]
  | cons p e ih =>
    obtain ⟨s, v⟩ := p
    simp only [restr, Env.get] at ih ⊢
    by_cases h : ts.contains s = true
    · rw [List.filter_cons_of_pos (by simpa using h)]
      by_cases hs : t = s
      · subst hs; rw [if_pos h]; simp [List.lookup]
      · have : (t == s) = false := by simpa using hs
        simp only [List.lookup, this]; exact ih
    · rw [List.filter_cons_of_neg (by simpa using h)]
      by_cases hs : t = s
      · subst hs; rw [ih]; simp only [h]; simp
      · have : (t == s) = false := by simpa using hs
        simp only [List.lookup, this]; exact ih
theorem restr_ext {e e' : Env} {ts : List Nat} (h : ∀ t, ts.contains t = true → e.get t = e'.get t) {tm : Array Value} (ha : Agree (restr e ts) tm) : Agree (restr e' ts) tm := by
  intro t v hv
  apply ha t v
  simp only [restr_get] at hv ⊢
  by_cases hc : ts.contains t = true
  · rw [if_pos hc] at hv ⊢; rw [h t hc]; exact hv
  · rw [if_neg hc] at hv; cases hv
def wfR (ops : Array Oper) : Bool :=
  (List.range ops.size).all fun i => match ops[i]? with
    | none => false
    | some o => (o.after.toList.all fun ed => !bnd ed || decide (ed.on < i)) && (List.range ops.size).all fun j => match ops[j]? with
      | none => false
      | some oj => (i == j || o.dst.isNone || o.dst != oj.dst) && (match oj.dst with
        | some d => !(o.looksAt ops).contains d || o.after.toList.any (fun ed => bnd ed && ed.on == j) || oj.after.toList.any (fun ed => bnd ed && ed.on == i)
        | none => true)
theorem wfR_at {ops : Array Oper} (h : wfR ops = true) {i : Nat} {o : Oper} (ho : ops[i]? = some o) : (∀ ed ∈ o.after, bnd ed = true → ed.on < i) ∧
    ∀ j oj, ops[j]? = some oj → (i ≠ j → ∀ d, o.dst = some d → oj.dst ≠ some d) ∧ ∀ d, oj.dst = some d → (o.looksAt ops).contains d = true → (∃ ed ∈ o.after, bnd ed = true ∧ ed.on = j) ∨ (∃ ed ∈ oj.after, bnd ed = true ∧ ed.on = i) := by
  have hi : i < ops.size := (Array.getElem?_eq_some_iff.1 ho).1
  have h1 := List.all_eq_true.1 h i (List.mem_range.2 hi)
  simp only [ho, Bool.and_eq_true] at h1
  refine ⟨fun ed hed hb => ?_, fun j oj hoj => ?_⟩
  · have := List.all_eq_true.1 h1.1 ed (Array.mem_toList_iff.2 hed)
    simpa [hb] using this
  · have hj : j < ops.size := (Array.getElem?_eq_some_iff.1 hoj).1
    have h2 := List.all_eq_true.1 h1.2 j (List.mem_range.2 hj)
    simp only [hoj, Bool.and_eq_true] at h2
    refine ⟨fun hne d hd hd' => ?_, fun d hd hl => ?_⟩
    · have := h2.1
      rw [hd, hd'] at this
      simp [hne] at this
    · have h3 := h2.2
      rw [hd] at h3
      simp only [Bool.or_eq_true, hl, Bool.not_true, Bool.false_eq_true, false_or] at h3
      rcases h3 with h3 | h3
      · obtain ⟨ed, he, hb⟩ := List.any_eq_true.1 h3
        replace he := Array.mem_toList_iff.1 he
        simp only [Bool.and_eq_true, beq_iff_eq] at hb
        exact .inl ⟨ed, he, hb.1, hb.2⟩
      · obtain ⟨ed, he, hb⟩ := List.any_eq_true.1 h3
        replace he := Array.mem_toList_iff.1 he
        simp only [Bool.and_eq_true, beq_iff_eq] at hb
        exact .inr ⟨ed, he, hb.1, hb.2⟩
def clos (ops : Array Oper) : Nat → List Nat → List Nat
  | 0, s => s
  | i + 1, s => clos ops i (if s.contains i then (match ops[i]? with | some o => (o.after.toList.filter bnd).map (·.on) ++ s | none => s) else s)
def waits (ops : Array Oper) (aft : Array Edge) (j : Nat) : Bool := (clos ops ops.size ((aft.toList.filter bnd).map (·.on))).contains j
theorem clos_mem {ops : Array Oper} {Pr : Nat → Prop} (hc : ∀ j o, ops[j]? = some o → Pr j → ∀ ed ∈ o.after, bnd ed = true → Pr ed.on) : ∀ (n : Nat) (s : List Nat), (∀ j ∈ s, Pr j) → ∀ j ∈ clos ops n s, Pr j := by
  intro n
  induction n with
  | zero => intro s hs j hj; exact hs j hj
  | succ i ih =>
    intro s hs j hj
    refine ih _ ?_ j hj
    intro x hx
    split at hx
    · rename_i hi
      cases ho : ops[i]? with
      | none => rw [ho] at hx; exact hs x hx
      | some o =>
        rw [ho] at hx
        rcases List.mem_append.1 hx with h | h
        · obtain ⟨ed, hed, rfl⟩ := List.mem_map.1 h
          obtain ⟨h1, h2⟩ := List.mem_filter.1 hed
          exact hc i o ho (hs i (by simpa using hi)) ed (Array.mem_toList_iff.1 h1) h2
        · exact hs x h
    · exact hs x hx
def putE (e : Env) (d : Option Nat) (v : Value) : Env := match d with | some d => (d, v) :: e | none => e
abbrev Pend := List (Nat × Value × Bool)
def Yields (C : Cx) (ops : Array Oper) (e : Env) (L : List HP) (p : Nat × Value × Bool) : Prop :=
  ∀ o, ops[p.1]? = some o → ∀ tm w, Agree (restr e (o.looksAt ops)) tm → (p.2.2 = false → Sat C.w0 w L) → YieldsAt C.P ops w o p.2.1 ⟨tm, []⟩
structure Good (C : Cx) (ops : Array Oper) (D : Pend) (vl : List Nat) (e : Env) (L : List HP) : Prop where
  wf : wfR ops = true
  yields : ∀ p ∈ D, Yields C ops e L p
  bound : ∀ p ∈ D, ∀ o d, ops[p.1]? = some o → o.dst = some d → e.get d = some p.2.1
  has : ∀ p ∈ D, p.1 ∈ vl
  slot : ∀ p ∈ D, ∀ o d, ops[p.1]? = some o → o.dst = some d → d < C.n
  nowar : ∀ p ∈ D, ∀ q ∈ D, ∀ o oq d, ops[p.1]? = some o → ops[q.1]? = some oq → oq.dst = some d → (o.looksAt ops).contains d = true → ∃ ed ∈ o.after, bnd ed = true ∧ ed.on = q.1
  closed : ∀ j ∈ vl, ∀ o, ops[j]? = some o → ∀ ed ∈ o.after, bnd ed = true → ed.on ∈ vl
structure Stands (C : Cx) (ops : Array Oper) (D : Pend) (vl : List Nat) (e : Env) (fuel : Nat) (al : Array Bool) (tm : Array Value) : Prop where
  size : al.size = ops.size
  n : tm.size = C.n
  count : (al.toList.filter (· == false)).length = fuel
  sub : ∀ j, al.getD j false = true → j ∈ vl
  done : ∀ j o, ops[j]? = some o → al.getD j false = true → ∀ ed ∈ o.after, bnd ed = true → al.getD ed.on false = true
  over : ∀ j ∈ vl, al.getD j true = false → ∃ p ∈ D, p.1 = j
  agree : ∀ t u, e.get t = some u → tm[t]? = some u ∨ ∃ p ∈ D, al.getD p.1 true = false ∧ ∃ o, ops[p.1]? = some o ∧ o.dst = some t
def XD (C : Cx) (ops : Array Oper) (k : List KI) (D : Pend) (vl : List Nat) (e : Env) (L : List HP) : Prop :=
  Good C ops D vl e L → ∀ fuel al tm w, Stands C ops D vl e fuel al tm → Sat C.w0 w L → wpAny C.P .any ops (kq C k) fuel al ⟨tm, []⟩ w
section
variable {C : Cx} {ops : Array Oper} {k : List KI} {D : Pend} {vl : List Nat} {e : Env} {L : List HP}
theorem X_draw {id : Nat} (hm : C.P.follows .mixedOrders = true) (hw : wfR ops = true) (h : XD C ops k [] [] e L) : X C k (.region id ops true) e L := by
  intro tm w h1 h2 h3
  refine wp_region_any hm (h ⟨hw, fun _ h => (by cases h), fun _ h => (by cases h), fun _ h => (by cases h), fun _ h => (by cases h), fun _ h => (by cases h), fun _ h => (by cases h)⟩ _ _ tm _ ⟨by simp, h1, ?_, fun j hj => ?_, fun j o _ hj => ?_, fun _ h => (by cases h), fun t u hu => .inl (h2 t u hu)⟩ ⟨h3.os, h3.tape, h3.output, h3.mem⟩)
  · simp
  · rw [getD_replicate_false] at hj; cases hj
  · rw [getD_replicate_false] at hj; cases hj
theorem unlisted_of {al : Array Bool} {j : Nat} (hs : j < al.size) (h : ¬ al.getD j false = true) : al.getD j true = false := by
  simp [hs] at h ⊢; exact h
theorem listed_of {al : Array Bool} {j : Nat} (h : al.getD j false = true) : ¬ al.getD j true = false := by
  rcases Nat.lt_or_ge j al.size with hs | hs
  · simp [hs] at h ⊢; exact h
  · simp [hs] at h
theorem count_set {al : Array Bool} {j : Nat} (h : al.getD j true = false) {f : Nat} (hc : (al.toList.filter (· == false)).length = f + 1) : ((al.setIfInBounds j true).toList.filter (· == false)).length = f := by
  have hs : j < al.size := by
    rcases Nat.lt_or_ge j al.size with hs | hs
    · exact hs
    · simp [hs] at h
  have hj : al.toList[j]? = some false := by simp [hs] at h ⊢; exact h
  rw [Array.toList_setIfInBounds]
  have key : ∀ (l : List Bool) (j f : Nat), l[j]? = some false → (l.filter (· == false)).length = f + 1 → ((l.set j true).filter (· == false)).length = f := by
    intro l
    induction l with
    | nil => intro j f hj; simp at hj
    | cons b l ih =>
      intro j f hj hc
      cases j with
      | zero =>
        simp at hj; subst hj
        simpa using hc
      | succ j =>
        simp at hj
        rw [List.set_cons_succ]
        cases b with
        | true => simp at hc ⊢; simpa using ih j f hj (by simpa using hc)
        | false =>
          simp at hc
          cases f with
          | zero =>
            have hm : false ∈ l.filter (· == false) := by
              rw [List.mem_filter]; exact ⟨List.mem_of_getElem? hj, rfl⟩
            have h0 : (l.filter (· == false)).length = 0 := by simpa using hc
            rw [List.length_eq_zero_iff] at h0
            rw [h0] at hm; cases hm
          | succ f =>
            have := ih j f hj (by simpa using hc)
            simpa using this
  exact key _ _ _ hj hc
theorem getD_at {al : Array Bool} {i j : Nat} {d : Bool} (h : i ≠ j) : (al.setIfInBounds i true).getD j d = al.getD j d := by
  simp [Array.getElem?_setIfInBounds_ne h]
theorem XD_read {i d : Nat} {v : Value} {b : Bool} {o : Oper} (ho : ops[i]? = some o) (hd : o.dst = some d) (hi : vl.contains i = false) (hr : depsIn o vl = true) (hl : (o.looksAt ops).contains d = false)
    (hdis : (D.all fun p => match ops[p.1]? with | some oj => !(oj.looksAt ops).contains d | none => true) = true)
    (hdn : d < C.n) (hv : ∀ tm w, Agree (restr e (o.looksAt ops)) tm → (b = false → Sat C.w0 w L) → YieldsAt C.P ops w o v ⟨tm, []⟩) (h : XD C ops k ((i, v, b) :: D) (i :: vl) ((d, v) :: e) L) : XD C ops k D vl e L := by
  intro G fuel al tm w S hs
  have hi' : i ∉ vl := fun hm => by simp at hi; exact hi hm
  have hget : ∀ t, t ≠ d → Env.get ((d, v) :: e) t = e.get t := fun t ht => by
    have : (t == d) = false := by simpa using ht
    simp [Env.get, List.lookup, this]
  have hself : Env.get ((d, v) :: e) d = some v := by simp [Env.get, List.lookup]
  have hil : al.getD i true = false := unlisted_of (by rw [S.size]; exact (Array.getElem?_eq_some_iff.1 ho).1) fun hh => hi' (S.sub i hh)
  refine h ⟨G.wf, ?_, ?_, ?_, ?_, ?_, ?_⟩ fuel al tm w ⟨S.size, S.n, S.count, fun j hj => List.mem_cons_of_mem _ (S.sub j hj), S.done, ?_, ?_⟩ hs
  · intro p hp
    rcases List.mem_cons.1 hp with rfl | hp
    · intro o' ho' tm' w' ha hsat
      obtain rfl : o = o' := Option.some.inj (ho.symm.trans ho')
      refine hv tm' w' (restr_ext (fun t ht => hget t ?_) ha) hsat
      rintro rfl; rw [hl] at ht; cases ht
    · intro oj hoj tm' w' ha hsat
      refine G.yields p hp oj hoj tm' w' (restr_ext (fun t ht => hget t ?_) ha) hsat
      rintro rfl
      have := List.all_eq_true.1 hdis p hp
      simp only [hoj, ht] at this
      cases this
  · intro p hp o' d' ho' hd'
    rcases List.mem_cons.1 hp with rfl | hp
    · obtain rfl : o = o' := Option.some.inj (ho.symm.trans ho')
      obtain rfl : d = d' := Option.some.inj (hd.symm.trans hd')
      exact hself
    · have hne : i ≠ p.1 := fun e1 => hi' (e1 ▸ G.has p hp)
      have := ((wfR_at G.wf ho).2 p.1 o' ho').1 hne d hd
      rw [hget d' (fun e1 => this (e1 ▸ hd'))]
      exact G.bound p hp o' d' ho' hd'
  · intro p hp
    rcases List.mem_cons.1 hp with rfl | hp
    · exact List.mem_cons_self
    · exact List.mem_cons_of_mem _ (G.has p hp)
  · intro p hp o' d' ho' hd'
    rcases List.mem_cons.1 hp with rfl | hp
    · obtain rfl : o = o' := Option.some.inj (ho.symm.trans ho')
      obtain rfl : d = d' := Option.some.inj (hd.symm.trans hd')
      exact hdn
    · exact G.slot p hp o' d' ho' hd'
  · intro p hp q hq o' oq d' ho' hoq hd' hlk
    rcases List.mem_cons.1 hp with rfl | hp
    · obtain rfl : o = o' := Option.some.inj (ho.symm.trans ho')
      rcases List.mem_cons.1 hq with rfl | hq
      · obtain rfl : o = oq := Option.some.inj (ho.symm.trans hoq)
        obtain rfl : d = d' := Option.some.inj (hd.symm.trans hd')
        rw [hl] at hlk; cases hlk
      · rcases ((wfR_at G.wf ho).2 q.1 oq hoq).2 d' hd' hlk with h1 | ⟨ed, h1, h2, h3⟩
        · exact h1
        · exact absurd (h3 ▸ G.closed q.1 (G.has q hq) oq hoq ed h1 h2) hi'
    · rcases List.mem_cons.1 hq with rfl | hq
      · obtain rfl : o = oq := Option.some.inj (ho.symm.trans hoq)
        obtain rfl : d = d' := Option.some.inj (hd.symm.trans hd')
        have := List.all_eq_true.1 hdis p hp
        simp only [ho', hlk] at this
        cases this
      · exact G.nowar p hp q hq o' oq d' ho' hoq hd' hlk
  · intro j hj o' ho' ed hed hb
    rcases List.mem_cons.1 hj with rfl | hj
    · obtain rfl : o = o' := Option.some.inj (ho.symm.trans ho')
      have := List.all_eq_true.1 hr ed (Array.mem_toList_iff.2 hed)
      simp [hb] at this
      exact List.mem_cons_of_mem _ this
    · exact List.mem_cons_of_mem _ (G.closed j hj o' ho' ed hed hb)
  · intro j hj hjl
    rcases List.mem_cons.1 hj with rfl | hj
    · exact ⟨_, List.mem_cons_self, rfl⟩
    · obtain ⟨p, hp, hpe⟩ := S.over j hj hjl
      exact ⟨p, List.mem_cons_of_mem _ hp, hpe⟩
  · intro t u hu
    by_cases ht : t = d
    · subst ht
      exact .inr ⟨(i, v, b), List.mem_cons_self, hil, o, ho, hd⟩
    · rw [hget t ht] at hu
      rcases S.agree t u hu with h1 | ⟨p, hp, h1, h2⟩
      · exact .inl h1
      · exact .inr ⟨p, List.mem_cons_of_mem _ hp, h1, h2⟩
def Acts (C : Cx) (ops : Array Oper) (k : List KI) (D : Pend) (vl : List Nat) (e : Env) (L : List HP) (i : Nat) : Prop :=
  ∃ o, ops[i]? = some o ∧ ∀ tm w (K : Act → World → Prop), tm.size = C.n → Agree (restr e (o.looksAt ops)) tm → Sat C.w0 w L →
    (∀ v w' L', (∀ x, o.dst = some x → x < C.n) → Sat C.w0 w' L' → (∀ p ∈ D, (waits ops o.after p.1) = false → Yields C ops (putE e o.dst v) L' p) →
      XD C ops k (D.filter fun p => !(waits ops o.after p.1)) (i :: vl) (putE e o.dst v) L' → K ((Act.mk tm []).put o.dst v) w') → wpOp C.P ops (kq C k) i K ⟨tm, []⟩ w
theorem mem_readyV {i : Nat} : i ∈ readyV ops vl ↔ i ∉ vl ∧ ∃ o, ops[i]? = some o ∧ depsIn o vl = true := by
  unfold readyV
  rw [List.mem_filter, List.mem_range]
  constructor
  · rintro ⟨h1, h2⟩
    simp only [Bool.and_eq_true, Bool.not_eq_true'] at h2
    refine ⟨by simpa using h2.1, ?_⟩
    cases ho : ops[i]? with
    | none => rw [ho] at h2; simp at h2
    | some o => rw [ho] at h2; exact ⟨o, rfl, h2.2⟩
  · rintro ⟨h1, o, ho, h2⟩
    exact ⟨(Array.getElem?_eq_some_iff.1 ho).1, by simp [ho, h1, h2]⟩
theorem XD_act (hw : ∀ i ∈ readyV ops vl, Acts C ops k D vl e L i) (hend : readyV ops vl = [] → XE C k .normal e L) : XD C ops k D vl e L := by
  intro G fuel
  induction fuel with
  | zero =>
    intro al tm w S hs
    have hall : ∀ j, j < al.size → al.getD j true = false → False := by
      intro j hj hf
      have h0 := S.count
      rw [List.length_eq_zero_iff] at h0
      have hm : false ∈ al.toList.filter (· == false) := by
        rw [List.mem_filter]
        refine ⟨?_, rfl⟩
        have : al.toList[j]? = some false := by simp [hj] at hf ⊢; exact hf
        exact List.mem_of_getElem? this
      rw [h0] at hm; cases hm
    have hr : Region.ready .any ops al = [] := by
      cases hc : Region.ready .any ops al with
      | nil => rfl
      | cons i l =>
        have hm : i ∈ Region.ready .any ops al := by rw [hc]; exact List.mem_cons_self
        obtain ⟨h1, o, ho, _⟩ := mem_ready.1 hm
        exact (hall i (by rw [S.size]; exact (Array.getElem?_eq_some_iff.1 ho).1) h1).elim
    have hv : readyV ops vl = [] := by
      cases hc : readyV ops vl with
      | nil => rfl
      | cons i l =>
        have hm : i ∈ readyV ops vl := by rw [hc]; exact List.mem_cons_self
        obtain ⟨h1, o, ho, _⟩ := mem_readyV.1 hm
        have hsz : i < al.size := by rw [S.size]; exact (Array.getElem?_eq_some_iff.1 ho).1
        refine (hall i hsz (unlisted_of hsz fun hh => h1 (S.sub i hh))).elim
    refine ⟨hr, hend hv tm w S.n (fun t u hu => ?_) hs⟩
    rcases S.agree t u hu with h1 | ⟨p, hp, h1, o, ho, _⟩
    · exact h1
    · exact (hall p.1 (by rw [S.size]; exact (Array.getElem?_eq_some_iff.1 ho).1) h1).elim
  | succ fuel ih =>
    intro al tm w S hs
    refine ⟨fun hr => ?_, fun i hi => ?_⟩
    · exfalso
      have hex : ∃ j, j < al.size ∧ al.getD j true = false := by
        have h0 := S.count
        have hm : ∃ b, b ∈ al.toList.filter (· == false) := by
          cases hc : al.toList.filter (· == false) with
          | nil => rw [hc] at h0; simp at h0
          | cons b l => exact ⟨b, List.mem_cons_self⟩
        obtain ⟨b, hb⟩ := hm
        rw [List.mem_filter] at hb
        obtain ⟨hb1, hb2⟩ := hb
        obtain ⟨j, hj, hjb⟩ := List.getElem_of_mem hb1
        have : b = false := by simpa using hb2
        subst this
        have hjs : j < al.size := by simpa using hj
        exact ⟨j, hjs, by simp [hjs]; simpa using hjb⟩
      obtain ⟨j, hj⟩ := hex
      have key : ∀ m j, j ≤ m → j < al.size → al.getD j true = false → ∃ i, i ∈ Region.ready .any ops al := by
        intro m
        induction m with
        | zero =>
          intro j hjm hjs hjl
          have h0 : j < ops.size := by rw [← S.size]; exact hjs
          refine ⟨j, mem_ready.2 ⟨hjl, ops[j], by simp [h0], fun ed hed hb => ?_⟩⟩
          have := (wfR_at G.wf (i := j) (o := ops[j]) (by simp [h0])).1 ed hed hb
          omega
        | succ m ihm =>
          intro j hjm hjs hjl
          have h0 : j < ops.size := by rw [← S.size]; exact hjs
          by_cases hall : ∀ ed ∈ ops[j].after, Region.binds .any ed = true → al.getD ed.on false = true
          · exact ⟨j, mem_ready.2 ⟨hjl, ops[j], by simp [h0], hall⟩⟩
          · simp only [Classical.not_forall] at hall
            obtain ⟨ed, hed, hb, hnl⟩ := hall
            have hlt := (wfR_at G.wf (i := j) (o := ops[j]) (by simp [h0])).1 ed hed hb
            exact ihm ed.on (by omega) (by omega) (unlisted_of (by omega) hnl)
      obtain ⟨i, hi⟩ := key j j (Nat.le_refl _) hj.1 hj.2
      rw [hr] at hi; cases hi
    · obtain ⟨hil, o, ho, hdeps⟩ := mem_ready.1 hi
      have hlist : ∀ ed ∈ o.after, bnd ed = true → al.getD ed.on false = true := hdeps
      have hcount := count_set hil S.count
      have hsz : i < al.size := by rw [S.size]; exact (Array.getElem?_eq_some_iff.1 ho).1
      have hsub' : ∀ j, (al.setIfInBounds i true).getD j false = true → j = i ∨ j ∈ vl := by
        intro j hj
        by_cases e1 : j = i
        · exact .inl e1
        · rw [getD_at (Ne.symm e1)] at hj; exact .inr (S.sub j hj)
      have hdone' : ∀ j o', ops[j]? = some o' → (al.setIfInBounds i true).getD j false = true → ∀ ed ∈ o'.after, bnd ed = true → (al.setIfInBounds i true).getD ed.on false = true := by
        intro j o' ho' hj ed hed hb
        have hkeep : ∀ x, al.getD x false = true → (al.setIfInBounds i true).getD x false = true := by
          intro x hx
          by_cases e1 : i = x
          · subst e1; simp [hsz]
          · rw [getD_at e1]; exact hx
        by_cases e1 : i = j
        · subst e1
          obtain rfl : o = o' := Option.some.inj (ho.symm.trans ho')
          exact hkeep _ (hlist ed hed hb)
        · rw [getD_at e1] at hj
          exact hkeep _ (S.done j o' ho' hj ed hed hb)
      by_cases hiv : i ∈ vl
      · obtain ⟨p, hp, rfl⟩ := S.over i hiv hil
        have hag : Agree (restr e (o.looksAt ops)) tm := by
          intro t u hu
          rw [restr_get] at hu
          by_cases hc : (o.looksAt ops).contains t = true
          · rw [if_pos hc] at hu
            rcases S.agree t u hu with h1 | ⟨q, hq, h1, oq, hoq, hdq⟩
            · exact h1
            · obtain ⟨ed, he, hb, hon⟩ := G.nowar p hp q hq o oq t ho hoq hdq hc
              exact absurd h1 (listed_of (hon ▸ hlist ed he hb))
          · rw [if_neg hc] at hu; cases hu
        have hy := G.yields p hp o ho tm w hag fun _ => hs
        refine wpOp_of_stOp (K := fun a => wpAny C.P .any ops (kq C k) fuel (al.setIfInBounds p.1 true) a w) (fun a h => h) (hy.stOp ho ?_)
        have hput : ∀ t u, e.get t = some u → (((Act.mk tm []).put o.dst p.2.1).tmps)[t]? = some u ∨ ∃ q ∈ D, (al.setIfInBounds p.1 true).getD q.1 true = false ∧ ∃ o, ops[q.1]? = some o ∧ o.dst = some t := by
          intro t u hu
          by_cases hdt : o.dst = some t
          · left
            have hb := G.bound p hp o t ho hdt
            rw [hu] at hb
            have hlt := G.slot p hp o t ho hdt
            simp only [Act.put, hdt]
            have := Option.some.inj hb
            subst this
            simp [S.n, hlt]
          · rcases S.agree t u hu with h1 | ⟨q, hq, h1, oq, hoq, hdq⟩
            · left
              cases hd : o.dst with
              | none => exact h1
              | some d =>
                have hne : d ≠ t := fun e1 => hdt (by rw [hd, e1])
                simp only [Act.put]
                rw [Array.getElem?_setIfInBounds_ne hne]; exact h1
            · right
              have hne : p.1 ≠ q.1 := by
                intro e1
                rw [← e1, ho] at hoq
                have := Option.some.inj hoq
                subst this
                exact hdt hdq
              exact ⟨q, hq, by rw [getD_at hne]; exact h1, oq, hoq, hdq⟩
        have S' : Stands C ops D vl e fuel (al.setIfInBounds p.1 true) ((Act.mk tm []).put o.dst p.2.1).tmps :=
          ⟨by simp [S.size], by cases hd : o.dst <;> simp [Act.put, hd, S.n], hcount, fun j hj => by
            rcases hsub' j hj with h1 | h1
            · rw [h1]; exact hiv
            · exact h1, hdone', fun j hj hjl => by
            have hne : p.1 ≠ j := by
              rintro rfl
              simp [hsz] at hjl
            rw [getD_at hne] at hjl
            exact S.over j hj hjl, hput⟩
        have := ih (al.setIfInBounds p.1 true) _ w S' hs
        cases hd : o.dst <;> (simp only [Act.put, hd] at this ⊢; exact this)
      · have hdv : depsIn o vl = true := by
          unfold depsIn
          rw [List.all_eq_true]
          intro ed hed
          replace hed := Array.mem_toList_iff.1 hed
          cases hb : bnd ed with
          | false => rfl
          | true => simp; exact S.sub _ (hlist ed hed hb)
        obtain ⟨o', ho', hact⟩ := hw i (mem_readyV.2 ⟨hiv, o, ho, hdv⟩)
        obtain rfl : o = o' := Option.some.inj (ho.symm.trans ho')
        have hag : Agree (restr e (o.looksAt ops)) tm := by
          intro t u hu
          rw [restr_get] at hu
          by_cases hc : (o.looksAt ops).contains t = true
          · rw [if_pos hc] at hu
            rcases S.agree t u hu with h1 | ⟨q, hq, h1, oq, hoq, hdq⟩
            · exact h1
            · rcases ((wfR_at G.wf ho).2 q.1 oq hoq).2 t hdq hc with ⟨ed, he, hb, hon⟩ | ⟨ed, he, hb, hon⟩
              · exact absurd h1 (listed_of (hon ▸ hlist ed he hb))
              · exact absurd (hon ▸ G.closed q.1 (G.has q hq) oq hoq ed he hb) hiv
          · rw [if_neg hc] at hu; cases hu
        refine hact tm w _ S.n hag hs ?_
        intro v w' L' hdn hs' hy hX
        have hafter : ∀ q ∈ D, al.getD q.1 true = false → (waits ops o.after q.1) = false := by
          intro q hq hql
          rw [← Bool.not_eq_true]
          intro hw'
          have := clos_mem (ops := ops) (Pr := fun x => al.getD x false = true) (fun j o' ho' hj ed hed hb => S.done j o' ho' hj ed hed hb) ops.size ((o.after.toList.filter bnd).map (·.on)) (fun j hj => by
            obtain ⟨ed, hed, rfl⟩ := List.mem_map.1 hj
            obtain ⟨h1, h2⟩ := List.mem_filter.1 hed
            exact hlist ed (Array.mem_toList_iff.1 h1) h2) q.1 (by simpa [waits] using hw')
          exact listed_of this hql
        have hget : ∀ t, o.dst ≠ some t → Env.get (putE e o.dst v) t = e.get t := by
          intro t ht
          cases hd : o.dst with
          | none => simp [putE]
          | some d =>
            have : (t == d) = false := by
              have : t ≠ d := fun e1 => ht (by rw [hd, e1])
              simpa using this
            simp [putE, Env.get, List.lookup, this]
        have hne : ∀ q ∈ D, i ≠ q.1 := fun q hq e1 => hiv (e1 ▸ G.has q hq)
        have hmem : ∀ q, q ∈ D.filter (fun p => !(waits ops o.after p.1)) → q ∈ D ∧ waits ops o.after q.1 = false := by
          intro q hq
          have := List.mem_filter.1 hq
          exact ⟨this.1, by simpa using this.2⟩
        rw [show (Act.mk tm []).put o.dst v = ⟨((Act.mk tm []).put o.dst v).tmps, []⟩ from by cases o.dst <;> rfl]
        refine hX ⟨G.wf, fun q hq => hy q (hmem q hq).1 (hmem q hq).2, ?_, fun q hq => List.mem_cons_of_mem _ (G.has q (hmem q hq).1), fun q hq => G.slot q (hmem q hq).1, fun q hq r hr => G.nowar q (hmem q hq).1 r (hmem r hr).1, ?_⟩ fuel _ _ w' ⟨by simp [S.size], by cases o.dst <;> simp [Act.put, S.n], hcount, ?_, hdone', ?_, ?_⟩ hs'
        · intro q hq oq d hoq hd
          have hqD := (hmem q hq).1
          have hdd : o.dst ≠ some d := fun e1 => ((wfR_at G.wf ho).2 q.1 oq hoq).1 (hne q hqD) d e1 hd
          rw [hget d hdd]
          exact G.bound q hqD oq d hoq hd
        · intro j hj oj hoj ed hed hb
          rcases List.mem_cons.1 hj with rfl | hj
          · obtain rfl : o = oj := Option.some.inj (ho.symm.trans hoj)
            exact List.mem_cons_of_mem _ (S.sub _ (hlist ed hed hb))
          · exact List.mem_cons_of_mem _ (G.closed j hj oj hoj ed hed hb)
        · intro j hj
          rcases hsub' j hj with h1 | h1
          · rw [h1]; exact List.mem_cons_self
          · exact List.mem_cons_of_mem _ h1
        · intro j hj hjl
          have hij : i ≠ j := by
            rintro rfl
            simp [hsz] at hjl
          rw [getD_at hij] at hjl
          rcases List.mem_cons.1 hj with h1 | h1
          · exact absurd h1.symm hij
          · obtain ⟨q, hq, hqe⟩ := S.over j h1 hjl
            exact ⟨q, List.mem_filter.2 ⟨hq, by simpa using hafter q hq (hqe ▸ hjl)⟩, hqe⟩
        · intro t u hu
          by_cases hdt : o.dst = some t
          · left
            have hlt := hdn t hdt
            simp only [Act.put, hdt] at hu ⊢
            simp [putE, Env.get, List.lookup] at hu
            subst hu
            simp [S.n, hlt]
          · rw [hget t hdt] at hu
            rcases S.agree t u hu with h1 | ⟨q, hq, h1, oq, hoq, hdq⟩
            · left
              cases hd : o.dst with
              | none => exact h1
              | some d =>
                have hne : d ≠ t := fun e1 => hdt (by rw [hd, e1])
                simp only [Act.put]
                rw [Array.getElem?_setIfInBounds_ne hne]; exact h1
            · right
              exact ⟨q, List.mem_filter.2 ⟨hq, by simpa using hafter q hq h1⟩, by rw [getD_at (hne q hq)]; exact h1, oq, hoq, hdq⟩
def rdK : Op → Bool
  | .move _ | .pick .. | .build .. | .fieldAddr .. | .field .. | .unOp .. | .makeFunc .. | .extract .. | .load .. | .nilCheck _ | .binOp .. | .convert .. | .indexAddr .. | .index .. | .lookup .. | .slice .. => true
  | .call ⟨.builtin .len, _, _⟩ | .call ⟨.builtin .cap, _, _⟩ | .call ⟨.builtin .max, _, _⟩ | .call ⟨.builtin .min, _, _⟩ => true
  | _ => false
def pickR (ops : Array Oper) (vl : List Nat) : Option Nat :=
  (List.range ops.size).find? fun i => !vl.contains i && (match ops[i]? with | some o => rdK o.op && depsIn o vl | none => false)
def XDi (C : Cx) (ops : Array Oper) (k : List KI) (D : Pend) (vl : List Nat) (e : Env) (L : List HP) (i : Nat) (o : Oper) : Prop :=
  ops[i]? = some o → vl.contains i = false → depsIn o vl = true → XD C ops k D vl e L
theorem XD_pick {i : Nat} {o : Oper} (hi : pickR ops vl = some i := by rfl) (ho : ops[i]? = some o := by rfl) (h : XDi C ops k D vl e L i o) : XD C ops k D vl e L := by
  have h1 := List.find?_some hi
  simp only [ho, Bool.and_eq_true, Bool.not_eq_true'] at h1
  exact h ho h1.1 h1.2.2
end
section
variable {P : Program} {w0 : World} {n : Nat} {Q : Exit → Act → World → Prop} {ops : Array Oper} {k : List KI} {D : Pend} {vl : List Nat} {e : Env} {L R : List HP} {i d : Nat} {op : Op} {ty : TypeId} {pos : String} {aft : Array Edge} {v : Value}
theorem XDi_gen {b : Bool} {g : Option (Nat × Bool)} (hw : ∀ tm, Agree (restr e (Oper.looksAt ops ⟨some d, op, ty, pos, aft, g⟩)) tm → Region.wanted ⟨some d, op, ty, pos, aft, g⟩ (yielded ops tm) = true)
    (hv : ∀ tm w pos aft', Agree (restr e (Oper.looksAt ops ⟨some d, op, ty, pos, aft, g⟩)) tm → (b = false → Sat w0 w L) → (execOp (Act.mk tm []).eval ⟨none, op, ty, pos, aft', none⟩).run P w = .ok (.value v) w)
    (hl : (Oper.looksAt ops ⟨some d, op, ty, pos, aft, g⟩).contains d = false) (hdis : (D.all fun p => match ops[p.1]? with | some oj => !(oj.looksAt ops).contains d | none => true) = true) (hdn : d < n)
    (h : XD ⟨P, w0, n, Q⟩ ops k ((i, v, b) :: D) (i :: vl) ((d, v) :: e) L) : XDi ⟨P, w0, n, Q⟩ ops k D vl e L i ⟨some d, op, ty, pos, aft, g⟩ := by
  intro ho hi hr
  refine XD_read ho rfl hi hr hl hdis hdn ?_ h
  intro tm w ha hs
  exact .inl ⟨hw tm ha, .inl (hv tm w pos aft ha hs)⟩
theorem XDi_pv (hv : PV P op ty (restr e (Oper.looksAt ops ⟨some d, op, ty, pos, aft, none⟩)) v)
    (hl : (Oper.looksAt ops ⟨some d, op, ty, pos, aft, none⟩).contains d = false := by kernel_rfl) (hdis : (D.all fun p => match ops[p.1]? with | some oj => !(oj.looksAt ops).contains d | none => true) = true := by kernel_rfl) (hdn : d < n := by exact Nat.le_of_ble_eq_true rfl)
    (h : XD ⟨P, w0, n, Q⟩ ops k ((i, v, true) :: D) (i :: vl) ((d, v) :: e) L) : XDi ⟨P, w0, n, Q⟩ ops k D vl e L i ⟨some d, op, ty, pos, aft, none⟩ :=
  XDi_gen (b := true) (fun _ _ => rfl) (fun tm w pos aft ha _ => hv tm w pos aft ha) hl hdis hdn h
theorem XDi_rv (hv : RV P w0 op ty (restr e (Oper.looksAt ops ⟨some d, op, ty, pos, aft, none⟩)) L v)
    (hl : (Oper.looksAt ops ⟨some d, op, ty, pos, aft, none⟩).contains d = false := by kernel_rfl) (hdis : (D.all fun p => match ops[p.1]? with | some oj => !(oj.looksAt ops).contains d | none => true) = true := by kernel_rfl) (hdn : d < n := by exact Nat.le_of_ble_eq_true rfl)
    (h : XD ⟨P, w0, n, Q⟩ ops k ((i, v, false) :: D) (i :: vl) ((d, v) :: e) L) : XDi ⟨P, w0, n, Q⟩ ops k D vl e L i ⟨some d, op, ty, pos, aft, none⟩ :=
  XDi_gen (b := false) (fun _ _ => rfl) (fun tm w pos aft ha hs => hv tm w pos aft ha (hs rfl)) hl hdis hdn h
theorem guard_looks {j t : Nat} {want : Bool} (hj : (ops[j]?).bind (·.dst) = some t) : (Oper.looksAt ops ⟨some d, op, ty, pos, aft, some (j, want)⟩).contains t = true := by
  simp [Oper.looksAt, hj]
theorem wanted_of {j t : Nat} {want b : Bool} (hj : (ops[j]?).bind (·.dst) = some t) (ht : e.get t = some (.bool b)) {tm : Array Value} (ha : Agree (restr e (Oper.looksAt ops ⟨some d, op, ty, pos, aft, some (j, want)⟩)) tm) :
    Region.wanted ⟨some d, op, ty, pos, aft, some (j, want)⟩ (yielded ops tm) = (b == want) := by
  have h1 : tm[t]? = some (.bool b) := ha t _ (by rw [restr_get, if_pos (guard_looks hj)]; exact ht)
  have := yielded_of (all := ops) hj h1
  cases b <;> cases want <;> simp [Region.wanted, this]
theorem XDi_gF {j t : Nat} {want b : Bool} (hj : (ops[j]?).bind (·.dst) = some t := by rfl) (ht : e.get t = some (.bool b) := by rfl) (hb : b = !want := by rfl)
    (hl : (Oper.looksAt ops ⟨some d, op, ty, pos, aft, some (j, want)⟩).contains d = false := by kernel_rfl) (hdis : (D.all fun p => match ops[p.1]? with | some oj => !(oj.looksAt ops).contains d | none => true) = true := by kernel_rfl) (hdn : d < n := by exact Nat.le_of_ble_eq_true rfl)
    (h : XD ⟨P, w0, n, Q⟩ ops k ((i, undef, true) :: D) (i :: vl) ((d, undef) :: e) L) : XDi ⟨P, w0, n, Q⟩ ops k D vl e L i ⟨some d, op, ty, pos, aft, some (j, want)⟩ := by
  intro ho hi hr
  refine XD_read ho rfl hi hr hl hdis hdn ?_ h
  intro tm w ha _
  refine .inr ⟨?_, rfl⟩
  rw [wanted_of hj ht ha, hb]
  cases want <;> rfl
theorem get_same {e : Env} {t : Nat} {v : Value} (ht : e.get t = some v) : ∀ s, Env.get ((t, v) :: e) s = e.get s := by
  intro s
  by_cases h : s = t
  · subst h; rw [ht]; simp [Env.get, List.lookup]
  · have : (s == t) = false := by simpa using h
    simp [Env.get, List.lookup, this]
theorem XD_reval {C : Cx} (t : Nat) {v : Value} (v' : Value) (ht : e.get t = some v := by rfl) (hv : v = v') (h : XD C ops k D vl ((t, v') :: e) L) : XD C ops k D vl e L := by
  subst hv
  have hg := get_same ht
  intro G fuel al tm w S hs
  refine h ⟨G.wf, fun p hp o ho tm w ha hsat => G.yields p hp o ho tm w (restr_ext (fun s _ => hg s) ha) hsat, fun p hp o d ho hd => by rw [hg]; exact G.bound p hp o d ho hd, G.has, G.slot, G.nowar, G.closed⟩ fuel al tm w
    ⟨S.size, S.n, S.count, S.sub, S.done, S.over, fun s u hu => S.agree s u (by rw [← hg]; exact hu)⟩ hs
theorem XD_split {C : Cx} (t : Nat) {b : Bool} (ht : e.get t = some (.bool b) := by rfl) (hT : b = true → XD C ops k D vl ((t, .bool true) :: e) L) (hF : b = false → XD C ops k D vl ((t, .bool false) :: e) L) : XD C ops k D vl e L := by
  cases b with
  | true => exact XD_reval t _ ht rfl (hT rfl)
  | false => exact XD_reval t _ ht rfl (hF rfl)
def Keeps (C : Cx) (ops : Array Oper) (e : Env) (L : List HP) (K : Pend) : Prop := ∀ p ∈ K, Yields C ops e L p
theorem keeps_nil {C : Cx} : Keeps C ops e L [] := fun _ h => by cases h
theorem keeps_fnil {C : Cx} {f : Nat × Value × Bool → Bool} : Keeps C ops e L (List.filter f []) := fun _ h => by cases h
theorem keeps_skip {C : Cx} {f : Nat × Value × Bool → Bool} {p : Nat × Value × Bool} {K : Pend} (hf : f p = false := by rfl) (h : Keeps C ops e L (List.filter f K)) : Keeps C ops e L (List.filter f (p :: K)) := by
  rw [List.filter_cons_of_neg (by simp [hf])]; exact h
def XDa (C : Cx) (ops : Array Oper) (k : List KI) (D : Pend) (vl : List Nat) (e : Env) (L : List HP) (i : Nat) (o : Oper) : Prop := Good C ops D vl e L → vl.contains i = false → ops[i]? = some o → Acts C ops k D vl e L i
theorem acts_gen {g : Option (Nat × Bool)} {dd : Option Nat} {Φ : Value → List HP → Prop} (hw : ∀ tm, Agree (restr e (Oper.looksAt ops ⟨dd, op, ty, pos, aft, g⟩)) tm → Region.wanted ⟨dd, op, ty, pos, aft, g⟩ (yielded ops tm) = true)
    (hv : DV P w0 op ty (restr e (Oper.looksAt ops ⟨dd, op, ty, pos, aft, g⟩)) L Φ) (hdn : ∀ x, dd = some x → x < n)
    (hk : ∀ v L', Φ v L' → Keeps ⟨P, w0, n, Q⟩ ops (putE e dd v) L' (D.filter fun p => !p.2.2 && !waits ops aft p.1) ∧ XD ⟨P, w0, n, Q⟩ ops k (D.filter fun p => !waits ops aft p.1) (i :: vl) (putE e dd v) L') :
    XDa ⟨P, w0, n, Q⟩ ops k D vl e L i ⟨dd, op, ty, pos, aft, g⟩ := by
  intro G hi ho
  refine ⟨_, ho, fun tm w K hn ha hs hK => ?_⟩
  unfold wpOp
  rw [ho]
  show if Region.wanted _ _ = true then _ else _
  rw [if_pos (hw tm ha)]
  left
  have := hv tm w pos aft dd K (kq ⟨P, w0, n, Q⟩ k) ha hs fun v w' L' hΦ hs' => by
    obtain ⟨h1, h2⟩ := hk v L' hΦ
    refine hK v w' L' hdn hs' (fun p hp hna => ?_) h2
    cases hb : p.2.2 with
    | false => exact h1 p (List.mem_filter.2 ⟨hp, by simp only at hna; simp [hb, hna]⟩)
    | true =>
      intro oj hoj tm' w'' ha' hsat
      refine G.yields p hp oj hoj tm' w'' (restr_ext (fun t ht => ?_) ha') (fun h => by rw [hb] at h; cases h)
      cases dd with
      | none => rfl
      | some d =>
        show Env.get ((d, v) :: e) t = e.get t
        by_cases hd : t = d
        · subst hd
          have hi' : i ∉ vl := fun hm => by simp at hi; exact hi hm
          rcases ((wfR_at G.wf hoj).2 i _ ho).2 t rfl ht with ⟨ed, h1, h2, h3⟩ | ⟨ed, h1, h2, h3⟩
          · exact absurd (h3 ▸ G.closed p.1 (G.has p hp) oj hoj ed h1 h2) hi'
          · have hsub : ∀ (n : Nat) (s : List Nat) (x : Nat), x ∈ s → x ∈ clos ops n s := by
              intro n
              induction n with
              | zero => intro s x hx; exact hx
              | succ m ihm =>
                intro s x hx
                refine ihm _ x ?_
                split
                · split
                  · exact List.mem_append.2 (.inr hx)
                  · exact hx
                · exact hx
            have : waits ops aft p.1 = true := by
              simp only [waits, List.contains_iff_mem]
              exact hsub _ _ _ (List.mem_map.2 ⟨ed, List.mem_filter.2 ⟨Array.mem_toList_iff.2 h1, h2⟩, h3⟩)
            simp only at hna
            rw [this] at hna; cases hna
        · have : (t == d) = false := by simpa using hd
          simp [Env.get, List.lookup, this]
  exact this
theorem XDa_dv {Φ : Value → List HP → Prop} (hv : DV P w0 op ty (restr e (Oper.looksAt ops ⟨some d, op, ty, pos, aft, none⟩)) L Φ) (hdn : d < n := by exact Nat.le_of_ble_eq_true rfl) (hK : (D.filter fun p => !p.2.2 && !waits ops aft p.1) = [] := by rfl)
    (hk : ∀ v L', Φ v L' → XD ⟨P, w0, n, Q⟩ ops k (D.filter fun p => !waits ops aft p.1) (i :: vl) ((d, v) :: e) L') : XDa ⟨P, w0, n, Q⟩ ops k D vl e L i ⟨some d, op, ty, pos, aft, none⟩ :=
  acts_gen (fun _ _ => rfl) hv (fun x hx => by cases hx; exact hdn) (fun v L' h => ⟨by rw [hK]; exact keeps_nil, hk v L' h⟩)
theorem XDa_dv0 {Φ : Value → List HP → Prop} (hv : DV P w0 op ty (restr e (Oper.looksAt ops ⟨none, op, ty, pos, aft, none⟩)) L Φ) (hK : (D.filter fun p => !p.2.2 && !waits ops aft p.1) = [] := by rfl)
    (hk : ∀ v L', Φ v L' → XD ⟨P, w0, n, Q⟩ ops k (D.filter fun p => !waits ops aft p.1) (i :: vl) e L') : XDa ⟨P, w0, n, Q⟩ ops k D vl e L i ⟨none, op, ty, pos, aft, none⟩ :=
  acts_gen (fun _ _ => rfl) hv (fun x hx => by cases hx) (fun v L' h => ⟨by rw [hK]; exact keeps_nil, hk v L' h⟩)
theorem XDa_dvk0 {Φ : Value → List HP → Prop} (hv : DV P w0 op ty (restr e (Oper.looksAt ops ⟨none, op, ty, pos, aft, none⟩)) L Φ) (K : Pend) (hK : (D.filter fun p => !p.2.2 && !waits ops aft p.1) = K := by rfl)
    (hk : ∀ v L', Φ v L' → Keeps ⟨P, w0, n, Q⟩ ops e L' K ∧ XD ⟨P, w0, n, Q⟩ ops k (D.filter fun p => !waits ops aft p.1) (i :: vl) e L') : XDa ⟨P, w0, n, Q⟩ ops k D vl e L i ⟨none, op, ty, pos, aft, none⟩ :=
  acts_gen (fun _ _ => rfl) hv (fun x hx => by cases hx) (fun v L' h => by subst hK; exact hk v L' h)
theorem XD_one {C : Cx} {o : Oper} (hr : readyV ops vl = [i] := by rfl) (ho : ops[i]? = some o := by rfl) (h : XDa C ops k D vl e L i o) : XD C ops k D vl e L := by
  intro G
  have hi : vl.contains i = false := by
    have : i ∈ readyV ops vl := by rw [hr]; exact List.mem_cons_self
    have := (mem_readyV.1 this).1
    simpa using this
  refine XD_act (fun j hj => ?_) (fun h0 => by rw [hr] at h0; cases h0) G
  rw [hr] at hj
  obtain rfl : j = i := by simpa using hj
  exact h G hi ho
theorem XD_two {C : Cx} {j : Nat} {o o' : Oper} (hr : readyV ops vl = [i, j] := by rfl) (ho : ops[i]? = some o := by rfl) (ho' : ops[j]? = some o' := by rfl) (h : XDa C ops k D vl e L i o) (h' : XDa C ops k D vl e L j o') : XD C ops k D vl e L := by
  intro G
  have hc : ∀ x ∈ readyV ops vl, vl.contains x = false := fun x hx => by simpa using (mem_readyV.1 hx).1
  have hi := hc i (by rw [hr]; simp)
  have hj := hc j (by rw [hr]; simp)
  refine XD_act (fun x hx => ?_) (fun h0 => by rw [hr] at h0; cases h0) G
  rw [hr] at hx
  rcases List.mem_cons.1 hx with rfl | hx
  · exact h G hi ho
  · obtain rfl : x = j := by simpa using hx
    exact h' G hj ho'
theorem XD_end {C : Cx} (hr : readyV ops vl = [] := by rfl) (h : XE C k .normal e L) : XD C ops k D vl e L := by
  refine XD_act (fun j hj => ?_) (fun _ => h)
  rw [hr] at hj; cases hj
class Mixed (P : Program) : Prop where
  out : P.follows .mixedOrders = true
theorem X_draws {id : Nat} [hm : Mixed P] (hw : wfR ops = true := by rfl) (h : XD ⟨P, w0, n, Q⟩ ops k [] [] e L) : X ⟨P, w0, n, Q⟩ k (.region id ops true) e L := X_draw hm.out hw h
end
end Go.Proofs.YtamecmklcnohjaaGreat.Sep
namespace Go.Proofs.YtamecmklcnohjaaGreat.Sep
open Go.ChangeShapes Go.WideShapes Go.ChangeAt Go.RowKit Go.Deep
set_option linter.unusedVariables false
section
variable {α : Type} {E' : E α}
theorem flat_split : ∀ {xs : List α} {j : Nat} {v : Value}, (flat E' xs)[j]? = some v → ∃ i x jj, xs[i]? = some x ∧ (E'.cells x)[jj]? = some v ∧ j = i * E'.sz + jj ∧ jj < E'.sz := by
  intro xs
  induction xs with
  | nil => intro j v h; simp [flat] at h
  | cons x xs ih =>
    intro j v h
    rw [show flat E' (x :: xs) = E'.cells x ++ flat E' xs from rfl] at h
    rcases Nat.lt_or_ge j (E'.cells x).length with hj | hj
    · rw [List.getElem?_append_left hj] at h
      exact ⟨0, x, j, rfl, h, by simp, by rwa [E'.len] at hj⟩
    · rw [List.getElem?_append_right hj, E'.len] at h
      rw [E'.len] at hj
      obtain ⟨i, y, jj, h1, h2, h3, h4⟩ := ih h
      exact ⟨i + 1, y, jj, by simpa using h1, h2, by rw [Nat.add_mul]; omega, h4⟩
theorem add_spot {ad : Addr} (h : ad.spot = none) (n : Nat) : ad.add n = ⟨ad.block, ad.off + n, none⟩ := by
  obtain ⟨b, o, s⟩ := ad
  simp only at h
  subst h
  unfold Addr.add
  split <;> simp_all
theorem view_of {W : World} {ad : Addr} {xs : List α} (hc : ∀ i x, xs[i]? = some x → ∀ j v, (E'.cells x)[j]? = some v → W.cell? (ad.add (i * E'.sz + j)) = some v) : View (base W) E' (some ad) xs := by
  intro H hH
  cases xs with
  | nil => exact .inl rfl
  | cons x xs =>
    right
    have hlt : 0 < (E'.cells x).length := by rw [E'.len]; exact E'.pos
    have h0 := hc 0 x rfl 0 _ (List.getElem?_eq_getElem hlt)
    rw [Nat.zero_mul, show ad.add (0 + 0) = ad from by simp [Addr.add]] at h0
    have hs : ad.spot = none := by
      cases hh : ad.spot with
      | none => rfl
      | some s => exact absurd h0 (by unfold World.cell?; split <;> simp_all)
    unfold World.cell? at h0
    split at h0
    · rename_i row T fr hb
      have hlt' : ad.block < W.heap.size := by
        rcases Nat.lt_or_ge ad.block W.heap.size with h | h
        · exact h
        · rw [Array.getElem?_eq_none h] at hb; cases hb
      unfold base at hH
      refine ⟨ad, rfl, hs, row, T, fr, (hH _ hlt').trans hb, fun j v hj => ?_⟩
      obtain ⟨i, y, jj, h1, h2, h3, _⟩ := flat_split hj
      have := hc i y h1 jj v h2
      rw [← h3, add_spot hs] at this
      simpa [World.cell?, hb] using this
    · cases h0
theorem View.length_nil {A : HP} (a : Option Addr) : View A E' a [] := fun _ _ => .inl rfl
end
def recCells : List IntKind → List Int → List Value
  | [], _ => []
  | k :: ks, x => .int k (x.headD 0) :: recCells ks x.tail
theorem recCells_len : ∀ (ks : List IntKind) (x : List Int), (recCells ks x).length = ks.length
  | [], _ => rfl
  | _ :: ks, x => by simp [recCells, recCells_len ks]
theorem recCells_one : ∀ (ks : List IntKind) (x : List Int), ∀ v ∈ recCells ks x, v.oneCell' = true
  | [], _, v, h => by simp [recCells] at h
  | k :: ks, x, v, h => by
    simp only [recCells, List.mem_cons] at h
    rcases h with rfl | h
    · rfl
    · exact recCells_one ks _ v h
def eR (k : IntKind) (ks : List IntKind) : E (List Int) := ⟨ks.length + 1, true, recCells (k :: ks), fun x => recCells_len _ _, fun x v h => recCells_one _ x v h, by omega, fun h => by cases h⟩
def WfR : List IntKind → List Int → Prop
  | [], x => x = []
  | k :: ks, n :: x => (Lit.int k n).wf = true ∧ WfR ks x
  | _ :: _, [] => False
section
variable {H : Type} {enc : TypeId × Value → H} {P : Program} {W : World} {b0 : Nat} {sp : Nat → Bool} {held : Bool}
def FieldsAre (P : Program) : List Field → List IntKind → Prop
  | [], [] => True
  | f :: fs, k :: ks => P.underlying f.type = some (.int k) ∧ FieldsAre P fs ks
  | _, _ => False
theorem FieldsAre.length {P : Program} : ∀ {l : List Field} {q : List IntKind}, FieldsAre P l q → l.length = q.length
  | [], [], _ => rfl
  | [], _ :: _, h => by cases h
  | _ :: _, [], h => by cases h
  | _ :: _, _ :: _, h => by simp [FieldsAre.length h.2]
end
theorem wf_u8 {a : Int} (h : (Lit.int .u8 a).wf = true) : 0 ≤ a ∧ a ≤ 255 := by
  simp [Lit.wf, IntKind.min, IntKind.max, IntKind.signed, IntKind.bits] at h; exact h
theorem wf_u16 {a : Int} (h : (Lit.int .u16 a).wf = true) : 0 ≤ a ∧ a ≤ 65535 := by
  simp [Lit.wf, IntKind.min, IntKind.max, IntKind.signed, IntKind.bits] at h; exact h
theorem wf_u64 {a : Int} (h : (Lit.int .u64 a).wf = true) : 0 ≤ a ∧ a ≤ 18446744073709551615 := by
  simp [Lit.wf, IntKind.min, IntKind.max, IntKind.signed, IntKind.bits] at h; exact h
section
variable {P : Program} {w0 : World} {n : Nat} {Q : Exit → Act → World → Prop} {k : List KI} {e : Env} {L R : List HP} {ty : TypeId} {A : HP}
variable {α : Type} {E' : E α}
theorem X_view {code : Code} {a : Option Addr} {xs : List α} (hf : Find L A R) (hv : View A E' a xs) (hp : 0 < xs.length) (h : ∀ b o, a = some ⟨b, o, none⟩ → X ⟨P, w0, n, Q⟩ k code e L) : X ⟨P, w0, n, Q⟩ k code e L := by
  unfold X at *
  intro tm w h1 h2 h3
  obtain ⟨H1, hA, _⟩ := (h3.find hf).atom
  rcases hv H1 hA with rfl | ⟨⟨b, o, s⟩, ha, hs, _⟩
  · simp at hp
  · simp only at hs
    subst hs
    exact h b o ha tm w h1 h2 h3
theorem holds_view {b o i f : Nat} {xs : List α} {x : α} {vs : List Value} (hV : View A E' (some ⟨b, o, none⟩) xs) (hx : xs[i]? = some x) (h : ((E'.cells x).drop f).take vs.length = vs) (hv : f + vs.length ≤ E'.sz) : Holds A b (o + i * E'.sz + f) vs := by
  intro H hH
  rcases hV H hH with rfl | ⟨ad, had, _, row, T, fr, hb, hr⟩
  · simp at hx
  obtain rfl : (⟨b, o, none⟩ : Addr) = ad := Option.some.inj had
  refine ⟨row, T, fr, hb, fun j v hj => ?_⟩
  have hlt : j < vs.length := (List.getElem?_eq_some_iff.1 hj).1
  have h2 := flat_get E' hx (j := f + j) (by omega)
  have := hr (i * E'.sz + (f + j)) v (by
    rw [h2, ← List.getElem?_drop, ← List.getElem?_take_of_lt hlt, h]; exact hj)
  rw [show o + i * E'.sz + f + j = o + (i * E'.sz + (f + j)) by omega]
  exact this
theorem rv_vel {T : TypeId} {x : Operand} {b o i s : Nat} {xs : List α} {dd : TypeDesc} {z : Value} {s' by' : Nat} [hu : TU P T dd] [hi : TI P T z s' by'] (hV : View A E' (some ⟨b, o, none⟩) xs) (hf : Find L A R := by repeat (first | exact Find.here | apply Find.there)) (hx : ev e x = some (.pointer (some ⟨b, o + i * s, none⟩)) := by rfl)
    (hg : aggD dd = E'.agg := by rfl) (hs : E'.sz = s := by rfl) (hs' : s' = s := by rfl) (hl : i < xs.length := by omega) : RV P w0 (.load T x) ty e L (E'.val xs[i]) := by
  subst hs hs'
  have hget : xs[i]? = some xs[i] := by simp [hl]
  have hh := holds_view (E' := E') (b := b) (o := o) (f := 0) (vs := E'.cells xs[i]) hV hget (by simp) (by rw [E'.len]; omega)
  rw [Nat.add_zero] at hh
  cases hag : E'.agg
  · rw [hag] at hg
    have h1 := E'.len xs[i]
    rw [E'.sole hag] at h1
    obtain ⟨v, hv⟩ := List.length_eq_one_iff.1 h1
    rw [hv] at hh
    have : E'.val xs[i] = v := by unfold E.val; rw [hag, hv]; rfl
    rw [this]
    exact rv_load1 hg hf hx hh
  · rw [hag] at hg
    have : E'.val xs[i] = .agg (E'.cells xs[i]).toArray := by unfold E.val; rw [hag]; rfl
    rw [this]
    exact rv_loadA (vs := E'.cells xs[i]) hg hf hx (E'.len _) hh
theorem rv_velf {T : TypeId} {x : Operand} {b o i s f : Nat} {xs : List α} {v : Value} {dd : TypeDesc} [hu : TU P T dd] (hV : View A E' (some ⟨b, o, none⟩) xs) (hf : Find L A R := by repeat (first | exact Find.here | apply Find.there)) (hx : ev e x = some (.pointer (some ⟨b, o + i * s + f, none⟩)) := by rfl)
    (hg : aggD dd = false := by rfl) (hs : E'.sz = s := by rfl) (hl : i < xs.length := by omega) (hv : (E'.cells xs[i])[f]? = some v := by rfl) : RV P w0 (.load T x) ty e L v := by
  subst hs
  have hget : xs[i]? = some xs[i] := by simp [hl]
  have hlt : f < (E'.cells xs[i]).length := (List.getElem?_eq_some_iff.1 hv).1
  refine rv_load1 hg hf hx (holds_view (f := f) (vs := [v]) hV hget ?_ (by rw [E'.len] at hlt; simp; omega))
  rw [List.drop_eq_getElem_cons hlt]
  simp [List.getElem?_eq_some_iff.1 hv |>.2]
end
end Go.Proofs.YtamecmklcnohjaaGreat.Sep
namespace Go.Proofs.YtamecmklcnohjaaGreat.Sep
open Go.ChangeShapes Go.WideShapes Go.ChangeAt Go.RowKit Go.Deep
set_option linter.unusedSimpArgs false
set_option linter.unusedVariables false
theorem WfR.length : ∀ {ks : List IntKind} {x : List Int}, WfR ks x → x.length = ks.length
  | [], x, h => by have : x = [] := h; subst this; rfl
  | k :: ks, n :: x, h => by simp [WfR.length h.2]
  | _ :: _, [], h => by cases h
def FlatT (P : Program) (t : TypeId) (ks : List IntKind) : Prop :=
  P.cellsOf t = ks.length ∧ ∀ (H : Type) (enc : TypeId × Value → H) (W : World) (base : Nat) (sp : Nat → Bool) (held : Bool) (fuel : Nat) (cs : List Value) (x : DataW H × List MemPlace), DataW.trod enc P W base sp held fuel t cs = some x → ∃ y, WfR ks y ∧ cs = recCells ks y
def FlatFs (P : Program) : Nat → List Field → List (List IntKind) → Prop
  | _, [], [] => True
  | o, f :: fs, k :: ks => f.offset = o ∧ FlatT P f.type k ∧ FlatFs P (o + k.length) fs ks
  | _, _, _ => False
section
variable {H : Type} {enc : TypeId × Value → H} {P : Program} {W : World} {b0 : Nat} {sp : Nat → Bool} {held : Bool}
end
section
variable {P : Program} {w0 : World} {n : Nat} {Q : Exit → Act → World → Prop} {k : List KI} {e : Env} {L R : List HP} {all : Array Oper} {rest : List Oper} {ty : TypeId}
theorem rv_velfG {α : Type} {E' : E α} {T : TypeId} {x : Operand} {A : HP} {b o s : Nat} {xs : List α} {v : Value} {dd : TypeDesc} (i f : Nat) (x' : α) [hu : TU P T dd] (hV : View A E' (some ⟨b, o, none⟩) xs) (hf : Find L A R := by repeat (first | exact Find.here | apply Find.there)) (hx : ev e x = some (.pointer (some ⟨b, o + i * s + f, none⟩)) := by rfl)
    (hg : aggD dd = false := by rfl) (hs : E'.sz = s := by rfl) (hv : (E'.cells x')[f]? = some v := by rfl) (hget : xs[i]? = some x') : RV P w0 (.load T x) ty e L v := by
  obtain ⟨hl, rfl⟩ := List.getElem?_eq_some_iff.1 hget
  exact rv_velf hV hf hx hg hs hl hv
end
end Go.Proofs.YtamecmklcnohjaaGreat.Sep
namespace Go.Proofs.YtamecmklcnohjaaGreat.Sep
open Go.ChangeShapes Go.WideShapes Go.ChangeAt Go.RowKit Go.Deep
set_option linter.unusedSimpArgs false
set_option linter.unusedVariables false
def FlatP (P : Program) (t : TypeId) (n : Nat) (φ : List Value → Prop) : Prop :=
  P.cellsOf t = n ∧ ∀ (H : Type) (enc : TypeId × Value → H) (W : World) (base : Nat) (sp : Nat → Bool) (held : Bool) (fuel : Nat) (cs : List Value) (x : DataW H × List MemPlace), DataW.trod enc P W base sp held fuel t cs = some x → φ cs
theorem flatP_int {P : Program} {t : TypeId} {k : IntKind} (h : P.underlying t = some (.int k)) (hc : P.cellsOf t = 1) : FlatP P t 1 (fun cs => ∃ n, (Lit.int k n).wf = true ∧ cs = [.int k n]) := by
  refine ⟨hc, fun H enc W base sp held fuel cs x ht => ?_⟩
  obtain ⟨n, rfl, _, hw⟩ := DataW.trod_int h ht
  exact ⟨n, hw, rfl⟩
def Parts : List Value → List (Nat × (List Value → Prop)) → Prop
  | cs, [] => cs = []
  | cs, q :: l => q.2 (cs.take q.1) ∧ Parts (cs.drop q.1) l
def FlatPs (P : Program) : Nat → List Field → List (Nat × (List Value → Prop)) → Prop
  | _, [], [] => True
  | o, f :: fs, q :: qs => f.offset = o ∧ FlatP P f.type q.1 q.2 ∧ FlatPs P (o + q.1) fs qs
  | _, _, _ => False
def sumN (qs : List (Nat × (List Value → Prop))) : Nat := (qs.map (·.1)).sum
section
variable {H : Type} {enc : TypeId × Value → H} {P : Program} {W : World} {b0 : Nat} {sp : Nat → Bool} {held : Bool}
end
end Go.Proofs.YtamecmklcnohjaaGreat.Sep
namespace Go.Proofs.YtamecmklcnohjaaGreat.Sep
open Go.ChangeShapes Go.WideShapes Go.ChangeAt Go.RowKit Go.Deep
set_option linter.unusedSimpArgs false
set_option linter.unusedVariables false
def FlatAt (P : Program) (W : World) (t : TypeId) (n : Nat) (φ : List Value → Prop) : Prop :=
  P.cellsOf t = n ∧ ∀ (H : Type) (enc : TypeId × Value → H) (base : Nat) (sp : Nat → Bool) (held : Bool) (fuel : Nat) (cs : List Value) (x : DataW H × List MemPlace), DataW.trod enc P W base sp held fuel t cs = some x → φ cs
theorem FlatP.at {P : Program} {t : TypeId} {n : Nat} {φ : List Value → Prop} (h : FlatP P t n φ) (W : World) : FlatAt P W t n φ := ⟨h.1, fun H enc base sp held fuel cs x ht => h.2 H enc W base sp held fuel cs x ht⟩
def FlatAts (P : Program) (W : World) : Nat → List Field → List (Nat × (List Value → Prop)) → Prop
  | _, [], [] => True
  | o, f :: fs, q :: qs => f.offset = o ∧ FlatAt P W f.type q.1 q.2 ∧ FlatAts P W (o + q.1) fs qs
  | _, _, _ => False
theorem flatAt_fields {P : Program} {H : Type} {enc : TypeId × Value → H} {W : World} {base : Nat} {sp : Nat → Bool} {held : Bool} {n : Nat} {cs : List Value} {ys : List (DataW H × List MemPlace)} : ∀ (fs : List Field) (qs : List (Nat × (List Value → Prop))) (o i : Nat), FlatAts P W o fs qs →
    (∀ j f, fs[j]? = some f → DataW.trod enc P W base sp held n f.type ((cs.drop f.offset).take (P.cellsOf f.type)) = ys[i + j]?) → i + fs.length ≤ ys.length → cs.length = o + sumN qs → Parts (cs.drop o) qs
  | [], [], o, i, _, _, _, hl => by show cs.drop o = []; rw [List.drop_of_length_le (by simp [sumN] at hl; omega)]
  | [], _ :: _, _, _, h, _, _, _ => by cases h
  | _ :: _, [], _, _, h, _, _, _ => by cases h
  | f :: fs, q :: qs, o, i, h, hg, hy, hl => by
    obtain ⟨h1, h2, h3⟩ := h
    have hg0 := hg 0 f rfl
    simp only [List.length_cons] at hy
    rw [List.getElem?_eq_getElem (show i + 0 < ys.length by omega)] at hg0
    have hc1 := h2.2 _ _ _ _ _ _ _ _ hg0
    rw [h1, h2.1] at hc1
    refine ⟨hc1, ?_⟩
    rw [List.drop_drop]
    exact flatAt_fields fs qs (o + q.1) (i + 1) h3 (fun j g hj => by
      have := hg (j + 1) g (by simpa using hj)
      rwa [show i + (j + 1) = i + 1 + j from by omega] at this) (by omega) (by simp [sumN] at hl ⊢; omega)
theorem flatAt_struct {P : Program} {W : World} {t : TypeId} {fs : Array Field} (ht : P.underlying t = some (.struct fs)) (qs : List (Nat × (List Value → Prop))) (hf : FlatAts P W 0 fs.toList qs) (hc : P.cellsOf t = sumN qs) : FlatAt P W t (sumN qs) (fun cs => Parts cs qs) := by
  refine ⟨hc, fun H enc base sp held fuel cs x h => ?_⟩
  obtain ⟨ys, n, _, _, hl, hyl, hg⟩ := DataW.trod_struct ht h
  have := flatAt_fields (ys := ys) fs.toList qs 0 0 hf (fun j f hj => by
    rw [Nat.zero_add]; exact hg j f (by simpa using hj)) (by simp; omega) (by omega)
  simpa using this
section
variable {H : Type} {enc : TypeId × Value → H} {P : Program} {W : World} {b0 : Nat} {sp : Nat → Bool} {held : Bool}
theorem open_flatW {α : Type} (E' : E α) (ok : α → Prop) {t e : TypeId} {n : Nat} {φ : List Value → Prop} {v : Value} {d : DataW H} {p : List MemPlace} {r : Reach} (ht : P.underlying t = some (.slice e)) (hF : FlatAt P W e n φ) (hn : E'.sz = n) (hφ : ∀ cs, φ cs → ∃ y, ok y ∧ cs = E'.cells y) (hv : Value.okWide P W r b0 t v)
    (h : DataW.Trod enc P W 0 sp held t v d p) : ∃ (a : Option Addr) (c : Nat) (xs : List α), v = .slice a xs.length c ∧ View (base W) E' a xs ∧ (∀ x ∈ xs, ok x) ∧ xs.length ≤ maxLen := by
  subst hn
  obtain ⟨a, len, cap, rfl⟩ := okWide_slice ht hv
  obtain ⟨fuel, hf⟩ := h
  rcases open_slice ht hf with ⟨h1, _⟩ | ⟨ad, l, c, m, n, D, Pl, h1, _, hl, hm, hmm, _, hi⟩
  · obtain ⟨rfl, rfl, rfl⟩ : a = none ∧ len = 0 ∧ cap = 0 := by simpa [Value.cells] using h1
    exact ⟨none, 0, [], rfl, fun _ _ => .inl rfl, (fun n h => by cases h), by simp⟩
  · obtain ⟨rfl, rfl, rfl⟩ : a = some ad ∧ len = l ∧ cap = c := by simpa [Value.cells] using h1
    have hle : len ≤ m := by rw [hmm]; split <;> omega
    have each : ∀ i, i < len → ∃ x : α, ok x ∧ ∀ j v, (E'.cells x)[j]? = some v → W.cell? (ad.add (i * E'.sz + j)) = some v := by
      intro i him
      obtain ⟨cs', hc, ht'⟩ := hi i (by omega)
      rw [hF.1] at hc
      obtain ⟨_, hcl, hat⟩ := World.cells?_some hc
      obtain ⟨y, hw, rfl⟩ := hφ _ (hF.2 _ _ _ _ _ _ _ _ ht')
      refine ⟨y, hw, fun j v hj => ?_⟩
      have hjl : j < E'.sz := by
        have := (List.getElem?_eq_some_iff.1 hj).1
        rw [E'.len] at this; exact this
      rw [← Go.Deep.add_add, hat j hjl]; exact hj
    rcases Nat.eq_zero_or_pos len with h0 | h0
    · subst h0
      exact ⟨some ad, cap, [], rfl, fun _ _ => .inl rfl, (fun n h => by cases h), by simp⟩
    obtain ⟨x0, _⟩ := each 0 h0
    let f : Nat → α := fun i => if h : i < len then Classical.choose (each i h) else x0
    have hfi : ∀ i (h : i < len), ok (f i) ∧ ∀ j v, (E'.cells (f i))[j]? = some v → W.cell? (ad.add (i * E'.sz + j)) = some v := by
      intro i h
      simp only [f, dif_pos h]
      exact Classical.choose_spec (each i h)
    refine ⟨some ad, cap, (List.range len).map f, by simp, view_of fun i x hx j v hj => ?_, ?_, by simp; omega⟩
    · have hi : i < len := by
        have := (List.getElem?_eq_some_iff.1 hx).1
        simpa using this
      have : f i = x := by simpa [hi] using hx
      subst this
      exact (hfi i hi).2 j v hj
    · intro x hx
      obtain ⟨i, hi, rfl⟩ := List.mem_map.1 hx
      exact (hfi i (List.mem_range.1 hi)).1
end
theorem flatAt_bytes {P : Program} {W : World} {t e : TypeId} (ht : P.underlying t = some (.slice e)) (he : P.underlying e = some (.int .u8)) (hc : P.cellsOf t = 1) (hce : P.cellsOf e = 1) : FlatAt P W t 1 (fun cs => ∃ (a : Option Addr) (c : Nat) (bs : List Int), cs = [.slice a bs.length c] ∧ View (base W) (eI .u8) a bs ∧ (∀ x ∈ bs, (Lit.int .u8 x).wf = true) ∧ bs.length ≤ maxLen ∧ bs.length ≤ c) := by
  refine ⟨hc, fun H enc b0 sp held fuel cs x hf => ?_⟩
  have hF := (flatP_int he hce).at W
  rcases open_slice ht hf with ⟨h1, _⟩ | ⟨ad, len, cap, m, n, D, Pl, h1, _, hl, hm, hmm, _, hi⟩
  · exact ⟨none, 0, [], h1, fun _ _ => .inl rfl, (fun n h => by cases h), by simp, by simp⟩
  · have hle : len ≤ m := by rw [hmm]; split <;> omega
    have each : ∀ i, i < len → ∃ x : Int, (Lit.int .u8 x).wf = true ∧ ∀ j v, ((eI .u8).cells x)[j]? = some v → W.cell? (ad.add (i * (eI .u8).sz + j)) = some v := by
      intro i him
      obtain ⟨cs', hc', ht'⟩ := hi i (by omega)
      rw [hF.1] at hc'
      obtain ⟨_, hcl, hat⟩ := World.cells?_some hc'
      obtain ⟨y, hw, hcs⟩ := hF.2 _ _ _ _ _ _ _ _ ht'
      subst hcs
      refine ⟨y, hw, fun j v hj => ?_⟩
      have hjl : j < 1 := by
        have := (List.getElem?_eq_some_iff.1 hj).1
        rw [(eI .u8).len] at this; exact this
      have := hat j hjl
      show W.cell? (ad.add (i * 1 + j)) = some v
      rw [← Go.Deep.add_add, this]; exact hj
    let f : Nat → Int := fun i => if h : i < len then Classical.choose (each i h) else 0
    have hfi : ∀ i (h : i < len), (Lit.int .u8 (f i)).wf = true ∧ ∀ j v, ((eI .u8).cells (f i))[j]? = some v → W.cell? (ad.add (i * (eI .u8).sz + j)) = some v := by
      intro i h
      simp only [f, dif_pos h]
      exact Classical.choose_spec (each i h)
    refine ⟨some ad, cap, (List.range len).map f, by rw [h1]; simp, view_of fun i x hx j v hj => ?_, ?_, by simp; omega, by simp; omega⟩
    · have hi : i < len := by
        have := (List.getElem?_eq_some_iff.1 hx).1
        simpa using this
      have : f i = x := by simpa [hi] using hx
      subst this
      exact (hfi i hi).2 j v hj
    · intro x hx
      obtain ⟨i, hi, rfl⟩ := List.mem_map.1 hx
      exact (hfi i (List.mem_range.1 hi)).1
end Go.Proofs.YtamecmklcnohjaaGreat.Sep
namespace Go.Proofs.YtamecmklcnohjaaGreat.Sep
open Go.RowKit
set_option linter.unusedSimpArgs false
set_option linter.unusedVariables false
set_option linter.unusedSectionVars false

section
variable {κ α : Type} [DecidableEq κ]
def lk : List (κ × α) → κ → Option α
  | [], _ => none
  | (a, v) :: l, k => if k = a then some v else lk l k
def ins : List (κ × α) → κ → α → List (κ × α)
  | [], k, v => [(k, v)]
  | (a, u) :: l, k, v => if k = a then (a, v) :: l else (a, u) :: ins l k v
def del : List (κ × α) → κ → List (κ × α)
  | [], _ => []
  | (a, u) :: l, k => if k = a then l else (a, u) :: del l k
def findIx : List (κ × α) → κ → Nat → Option (Nat × α)
  | [], _, _ => none
  | (a, v) :: l, k, i => if k = a then some (i, v) else findIx l k (i + 1)
theorem lk_ins (l : List (κ × α)) (k k' : κ) (v : α) : lk (ins l k v) k' = if k' = k then some v else lk l k' := by
  induction l with
  | nil => simp [ins, lk]
  | cons p l ih =>
    obtain ⟨a, u⟩ := p
    by_cases h : k = a
    · subst h; simp only [ins, if_true, lk]; split <;> rfl
    · simp only [ins, h, if_false, lk, ih]
      by_cases h1 : k' = a
      · subst h1; simp [Ne.symm h]
      · simp [h1]
theorem keys_ins (l : List (κ × α)) (k : κ) (v : α) : (ins l k v).map (·.1) = if k ∈ l.map (·.1) then l.map (·.1) else l.map (·.1) ++ [k] := by
  induction l with
  | nil => simp [ins]
  | cons p l ih =>
    obtain ⟨a, u⟩ := p
    by_cases h : k = a
    · subst h; simp [ins]
    · simp only [ins, h, if_false, List.map_cons, ih, List.mem_cons, false_or]
      split <;> simp
theorem nodup_ins {l : List (κ × α)} (h : (l.map (·.1)).Nodup) (k : κ) (v : α) : ((ins l k v).map (·.1)).Nodup := by
  rw [keys_ins]
  split
  · exact h
  · rename_i hk
    rw [List.nodup_append]
    refine ⟨h, by simp, ?_⟩
    intro a ha b hb
    simp at hb; subst hb
    rintro rfl; exact hk ha
theorem lk_none {l : List (κ × α)} {k : κ} : lk l k = none ↔ k ∉ l.map (·.1) := by
  induction l with
  | nil => simp [lk]
  | cons p l ih =>
    obtain ⟨a, u⟩ := p
    by_cases h : k = a
    · subst h; simp [lk]
    · simp only [lk, h, if_false, ih, List.map_cons, List.mem_cons, false_or]
theorem lk_del {l : List (κ × α)} (h : (l.map (·.1)).Nodup) (k k' : κ) : lk (del l k) k' = if k' = k then none else lk l k' := by
  induction l with
  | nil => simp [del, lk]
  | cons p l ih =>
    obtain ⟨a, u⟩ := p
    simp only [List.map_cons, List.nodup_cons] at h
    by_cases hk : k = a
    · subst hk
      simp only [del, if_true, lk]
      by_cases h1 : k' = k
      · subst h1; simp [lk_none.2 h.1]
      · simp [h1]
    · simp only [del, hk, if_false, lk, ih h.2]
      by_cases h1 : k' = a
      · subst h1; simp [Ne.symm hk]
      · simp [h1]
theorem del_sub (l : List (κ × α)) (k : κ) : ((del l k).map (·.1)).Sublist (l.map (·.1)) := by
  induction l with
  | nil => simp [del]
  | cons p l ih =>
    obtain ⟨a, u⟩ := p
    by_cases h : k = a
    · simp [del, h]
    · simp only [del, h, if_false, List.map_cons]; exact ih.cons_cons _
theorem nodup_del {l : List (κ × α)} (h : (l.map (·.1)).Nodup) (k : κ) : ((del l k).map (·.1)).Nodup := (del_sub l k).nodup h
theorem length_ins (l : List (κ × α)) (k : κ) (v : α) : (ins l k v).length = if (lk l k).isSome then l.length else l.length + 1 := by
  induction l with
  | nil => simp [ins, lk]
  | cons p l ih =>
    obtain ⟨a, u⟩ := p
    by_cases h : k = a
    · subst h; simp [ins, lk]
    · simp only [ins, h, if_false, lk, List.length_cons, ih]; split <;> rfl
theorem length_del (l : List (κ × α)) (k : κ) : (del l k).length = if (lk l k).isSome then l.length - 1 else l.length := by
  induction l with
  | nil => simp [del, lk]
  | cons p l ih =>
    obtain ⟨a, u⟩ := p
    by_cases h : k = a
    · subst h; simp [del, lk]
    · simp only [del, h, if_false, lk, List.length_cons, ih]
      cases hh : lk l k with
      | none => simp
      | some v =>
        have : l ≠ [] := by rintro rfl; simp [lk] at hh
        have := List.length_pos_iff.2 this
        simp; omega
theorem findIx_lk (l : List (κ × α)) (k : κ) (i : Nat) : (findIx l k i).map (·.2) = lk l k := by
  induction l generalizing i with
  | nil => rfl
  | cons p l ih =>
    obtain ⟨a, u⟩ := p
    simp only [findIx, lk]
    split
    · rfl
    · exact ih _
end
class TK {κ : Type} (P : Program) (T : TypeId) (ke : κ → Value) : Prop where
  inj : ∀ a b, ke a = ke b → a = b
  check : ∀ em w a, (Instr.checkKey em 10000 T (ke a)).run P w = .ok () w
  eq : ∀ a b w, (Op.equal T (ke a) (ke b)).run P w = .ok (@decide (a = b) (Classical.propDecidable _)) w
  bits : ∀ a, Instr.sameBits 10000 (ke a) (ke a) = true
  now : ∃ d, P.underlying T = some d ∧ ((∀ a b, Instr.sameNow d (ke a) (ke b) = some (@decide (a = b) (Classical.propDecidable _))) ∨ ∀ a b, Instr.sameNow d (ke a) (ke b) = none)
instance tk_int {P : Program} {T : TypeId} {kd : IntKind} [h : TU P T (.int kd)] : TK P T (fun n : Int => Value.int kd n) where
  inj := fun a b h => by cases h; rfl
  check := fun em w a => by
    have key : ∀ d, (Instr.checkKey em (d + 1) T (.int kd a)).run P w = .ok () w := fun d => by
      simp only [Instr.checkKey, Sem.run_bind, run_und h.out, Result.andThen_ok]; rfl
    exact key 9999
  eq := fun a b w => equal_at P w T _ _ fun d => by
    simp only [Op.equalIn, Sem.run_bind, run_und h.out, Result.andThen_ok, if_true]
    exact congrArg (fun x => Result.ok x w) (by by_cases e : a = b <;> simp [e])
  bits := fun a => by simp [Instr.sameBits]
  now := ⟨_, h.out, .inl fun a b => by simp only [Instr.sameNow, if_true]; exact congrArg some (by by_cases e : a = b <;> simp [e])⟩
theorem run_eqInt {P : Program} {t : TypeId} {k : IntKind} (h : P.underlying t = some (.int k)) (d : Nat) (a b : Int) (w : World) : (Op.equalIn (d + 1) t (.int k a) (.int k b)).run P w = .ok (a == b) w := by
  unfold Op.equalIn
  simp only [Sem.run_bind, run_und h, Result.andThen_ok, if_true]
  rfl
theorem run_eqPair {P : Program} {T : TypeId} {f1 f2 : Field} {k1 k2 : IntKind} (hu : P.underlying T = some (.struct #[f1, f2])) (hs : P.stoodInHeld T = false) (h1 : P.underlying f1.type = some (.int k1)) (h2 : P.underlying f2.type = some (.int k2))
    (n1 : f1.name ≠ "_") (n2 : f2.name ≠ "_") (o1 : f1.offset = 0) (o2 : f2.offset = 1) (d : Nat) (a1 a2 b1 b2 : Int) (w : World) :
    (Op.equalIn (d + 2) T (.agg #[.int k1 a1, .int k2 a2]) (.agg #[.int k1 b1, .int k2 b2])).run P w = .ok (a1 == b1 && a2 == b2) w := by
  unfold Op.equalIn
  have e1 := run_eqInt h1 d a1 b1 w
  have e2 := run_eqInt h2 d a2 b2 w
  simp only [Sem.run_bind, run_und hu, Result.andThen_ok, run_program, hs, Bool.false_eq_true, if_false]
  simp [part, run_isAgg h1, run_isAgg h2, aggD, n1, n2, o1, o2, e1, e2]
  by_cases a1 = b1 <;> by_cases a2 = b2 <;> simp [*]
theorem run_checkInt {P : Program} {t : TypeId} {k : IntKind} (h : P.underlying t = some (.int k)) (em : Bool) (d : Nat) (a : Int) (w : World) : (Instr.checkKey em (d + 1) t (.int k a)).run P w = .ok () w := by
  unfold Instr.checkKey
  simp only [Sem.run_bind, run_und h, Result.andThen_ok]; rfl
theorem tk_pair {P : Program} {T : TypeId} {f1 f2 : Field} {k1 k2 : IntKind} (hu : P.underlying T = some (.struct #[f1, f2])) (hs : P.stoodInHeld T = false) (h1 : P.underlying f1.type = some (.int k1)) (h2 : P.underlying f2.type = some (.int k2))
    (n1 : f1.name ≠ "_") (n2 : f2.name ≠ "_") (o1 : f1.offset = 0) (o2 : f2.offset = 1) : TK P T (fun p : Int × Int => .agg #[.int k1 p.1, .int k2 p.2]) where
  inj := fun a b h => by
    obtain ⟨a1, a2⟩ := a; obtain ⟨b1, b2⟩ := b
    simp at h; simp [h]
  check := fun em w a => by
    have key : ∀ d, (Instr.checkKey em (d + 2) T (.agg #[.int k1 a.1, .int k2 a.2])).run P w = .ok () w := fun d => by
      unfold Instr.checkKey
      have e1 := run_checkInt h1 em d a.1 w
      have e2 := run_checkInt h2 em d a.2 w
      simp only [Sem.run_bind, run_und hu, Result.andThen_ok]
      simp [part, run_isAgg h1, run_isAgg h2, aggD, n1, n2, o1, o2, e1, e2]
    exact key 9998
  eq := fun a b w => by
    have : (Op.equal T (.agg #[.int k1 a.1, .int k2 a.2]) (.agg #[.int k1 b.1, .int k2 b.2])).run P w = _ := run_eqPair hu hs h1 h2 n1 n2 o1 o2 9998 a.1 a.2 b.1 b.2 w
    rw [this]
    refine congrArg (fun x => Result.ok x w) ?_
    obtain ⟨a1, a2⟩ := a; obtain ⟨b1, b2⟩ := b
    by_cases e1 : a1 = b1 <;> by_cases e2 : a2 = b2 <;> simp [e1, e2]
  bits := fun a => by simp [Instr.sameBits]
  now := ⟨_, hu, .inr fun a b => rfl⟩
section
variable {κ α : Type} [DecidableEq κ] {P : Program} {T : TypeId} {ke : κ → Value} {ve : α → Value}
theorem findNow_some (hk : TK P T ke) {d : TypeDesc} (hn : ∀ a b, Instr.sameNow d (ke a) (ke b) = some (@decide (a = b) (Classical.propDecidable _))) (k : κ) : ∀ (es : List MapEntry) (l : List (κ × α)) (i : Nat),
    es.map (fun e => (e.key, e.val)) = l.map (fun p => (ke p.1, ve p.2)) → Instr.findNow d (ke k) es i = some ((findIx l k i).map fun p => (p.1, ve p.2)) := by
  intro es
  induction es with
  | nil => intro l i h; cases l <;> simp at h; simp [Instr.findNow, findIx]
  | cons e es ih =>
    intro l i h
    cases l with
    | nil => simp at h
    | cons p l =>
      simp only [List.map_cons, List.cons.injEq, Prod.mk.injEq] at h
      obtain ⟨⟨h1, h2⟩, h3⟩ := h
      obtain ⟨a, u⟩ := p
      simp only [Instr.findNow, h1, hn, findIx]
      by_cases e1 : k = a
      · simp [e1, h2]
      · simp only [e1, decide_false, if_false]; exact ih l (i + 1) h3
theorem findNow_none {d : TypeDesc} (hn : ∀ a b, Instr.sameNow d (ke a) (ke b) = none) (k : κ) (es : List MapEntry) (l : List (κ × α)) (i : Nat)
    (h : es.map (fun e => (e.key, e.val)) = l.map (fun p => (ke p.1, ve p.2))) : Instr.findNow d (ke k) es i = if l.isEmpty then some none else none := by
  cases es with
  | nil => cases l <;> simp at h; simp [Instr.findNow]
  | cons e es =>
    cases l with
    | nil => simp at h
    | cons p l =>
      simp only [List.map_cons, List.cons.injEq, Prod.mk.injEq] at h
      simp [Instr.findNow, h.1.1, hn]
theorem run_findAsking (hk : TK P T ke) (k : κ) (w : World) : ∀ (es : List MapEntry) (l : List (κ × α)) (i : Nat),
    es.map (fun e => (e.key, e.val)) = l.map (fun p => (ke p.1, ve p.2)) → (Instr.findAsking T (ke k) es i).run P w = .ok ((findIx l k i).map fun p => (p.1, ve p.2)) w := by
  intro es
  induction es with
  | nil => intro l i h; cases l <;> simp at h; simp [Instr.findAsking, findIx]
  | cons e es ih =>
    intro l i h
    cases l with
    | nil => simp at h
    | cons p l =>
      simp only [List.map_cons, List.cons.injEq, Prod.mk.injEq] at h
      obtain ⟨⟨h1, h2⟩, h3⟩ := h
      obtain ⟨a, u⟩ := p
      simp only [Instr.findAsking, h1, Sem.run_bind, hk.eq, Result.andThen_ok, findIx]
      by_cases e1 : k = a
      · simp [e1, h2]
      · simp only [e1, decide_false, Bool.false_eq_true, if_false]; exact ih l (i + 1) h3
theorem run_findKey (hk : TK P T ke) (k : κ) (w : World) {es : List MapEntry} {l : List (κ × α)} (h : es.map (fun e => (e.key, e.val)) = l.map (fun p => (ke p.1, ve p.2))) :
    (Instr.findKey T (ke k) es).run P w = .ok ((findIx l k 0).map fun p => (p.1, ve p.2)) w := by
  obtain ⟨d, hd, hn⟩ := hk.now
  simp only [Instr.findKey, Sem.run_bind, run_und hd, Result.andThen_ok]
  rcases hn with hn | hn
  · rw [findNow_some hk hn k es l 0 h]; rfl
  · rw [findNow_none hn k es l 0 h]
    cases l with
    | nil => rfl
    | cons p l => exact run_findAsking hk k w es (p :: l) 0 h
end
def Mp {κ α : Type} (ke : κ → Value) (ve : α → Value) (b : Nat) (l : List (κ × α)) : HP := fun H => (l.map (·.1)).Nodup ∧ ∃ es clock, H b = some (.map es clock) ∧
  es.toList.map (fun e => (e.key, e.val)) = l.map (fun p => (ke p.1, ve p.2)) ∧ (∀ e ∈ es.toList, e.born < clock) ∧ (es.toList.map (·.born)).Nodup
theorem Mp.at {κ α : Type} {ke : κ → Value} {ve : α → Value} {b : Nat} {l : List (κ × α)} {w0 w : World} {L : List HP} (h : Sat w0 w (Mp ke ve b l :: L)) : (l.map (·.1)).Nodup ∧ ∃ es clock, w.heap[b]? = some (.map es clock) ∧
  es.toList.map (fun e => (e.key, e.val)) = l.map (fun p => (ke p.1, ve p.2)) ∧ (∀ e ∈ es.toList, e.born < clock) ∧ (es.toList.map (·.born)).Nodup := by
  obtain ⟨H1, ⟨hn, es, clock, hb, hr⟩, hle⟩ := h.atom
  exact ⟨hn, es, clock, hle _ _ hb, hr⟩
theorem Mp.nodup {κ α : Type} {ke : κ → Value} {ve : α → Value} {b : Nat} {l : List (κ × α)} : ∀ H, Mp ke ve b l H → (l.map (·.1)).Nodup := fun _ h => h.1
theorem Sat.turn1 {w0 w w' : World} {A B : HP} {L : List HP} {b : Nat} {o' : Obj} (h : Sat w0 w (A :: L)) (hA : ∀ H, A H → H b ≠ none) (h1 : w'.os = w.os) (h2 : w'.tape = w.tape) (h3 : w'.output = w.output)
    (hb : w'.heap[b]? = some o') (hk : ∀ k, k ≠ b → w'.heap[k]? = w.heap[k]?) (hB : ∀ H, A H → B (fun k => if k = b then some o' else H k)) : Sat w0 w' (B :: L) := by
  refine h.turn h1 h2 h3 fun H1 hA1 hle => ⟨fun k => if k = b then some o' else H1 k, hB H1 hA1, fun k o ho => ?_, fun k hne => ?_, fun k hn hne => ?_⟩
  · by_cases e : k = b
    · subst e; simp at ho; rw [← ho]; exact hb
    · simp [e] at ho; rw [hk k e]; exact hle k o ho
  · by_cases e : k = b
    · left; rw [e]; exact hA H1 hA1
    · simp [e] at hne; exact .inl hne
  · have e : k ≠ b := by rintro rfl; exact hA H1 hA1 hn
    exact hk k e
section
variable {P : Program} {w0 : World} {n : Nat} {Q : Exit → Act → World → Prop} {k : List KI} {e : Env} {L R : List HP} {all : Array Oper} {rest : List Oper} {ty : TypeId} {pos : String} {aft : Array Edge} {d : Nat}
variable {κ α : Type} [DecidableEq κ] {ke : κ → Value} {ve : α → Value}
theorem run_getMap {w : World} {b : Nat} {es : Array MapEntry} {clock : Nat} (h : w.heap[b]? = some (.map es clock)) : (getObj b).run P w = .ok (.map es clock) w := by
  simp only [getObj, Sem.run, h]
theorem run_setMap {w : World} {b : Nat} {es : Array MapEntry} {clock : Nat} (h : w.heap[b]? = some (.map es clock)) (o : Obj) : (setObj b o).run P w = .ok () { w with heap := w.heap.setIfInBounds b o } := by
  simp only [setObj, Sem.run, h]
theorem rv_lookup {T K el s by' : Nat} {x ix : Operand} {b : Nat} {l : List (κ × α)} {z : Value} (kk : κ) (d0 : α) [hu : TU P T (.map K el)] [hi : TI P el z s by'] (hx : ev e x = some (.map (some b)) := by rfl)
    (hf : Find L (Mp ke ve b l) R := by repeat (first | exact Find.here | apply Find.there)) (hk : ev e ix = some (ke kk) := by rfl) (ht : TK P K ke := by infer_instance) (hz : z = ve d0 := by rfl) : RV P w0 (.lookup T x ix false) ty e L (ve ((lk l kk).getD d0)) := fun tm w pos aft h2 h3 => by
  obtain ⟨_, es, clock, hb, hes, _⟩ := Mp.at (h3.find hf)
  have h4 : (underlying T).run P w = .ok (.map K el) w := run_und hu.out
  have h5 := run_findKey ht kk w hes
  simp only [execOp, ev_sound h2 hx, ev_sound h2 hk, Instr.lookup, Sem.run_bind, h4, Result.andThen_ok, run_getMap hb, Sem.run_pure, ht.check, h5]
  rw [← findIx_lk l kk 0]
  cases findIx l kk 0 with
  | none => simp [run_zero hi, hz]
  | some p => simp
theorem ins_at (l : List (κ × α)) (kk : κ) (v : α) : ∀ i, match findIx l kk i with
    | some (j, _) => ∃ m, j = i + m ∧ m < l.length ∧ ins l kk v = l.set m (kk, v) ∧ (l.map (·.1))[m]? = some kk
    | none => ins l kk v = l ++ [(kk, v)] := by
  induction l with
  | nil => intro i; simp [findIx, ins]
  | cons p l ih =>
    intro i
    obtain ⟨a, u⟩ := p
    by_cases h : kk = a
    · subst h; simp only [findIx, if_true, ins]; exact ⟨0, by simp⟩
    · simp only [findIx, h, if_false, ins]
      have := ih (i + 1)
      cases hf : findIx l kk (i + 1) with
      | none => rw [hf] at this; simp only at this ⊢; rw [this]; rfl
      | some q =>
        obtain ⟨j, u'⟩ := q
        rw [hf] at this
        obtain ⟨m, h1, h2, h3, h4⟩ := this
        exact ⟨m + 1, by omega, by simpa using h2, by rw [h3]; rfl, by simpa using h4⟩
theorem heap_set_at {w : World} {b : Nat} {o o' : Obj} (h : w.heap[b]? = some o) : (w.heap.setIfInBounds b o')[b]? = some o' := by
  have : b < w.heap.size := (Array.getElem?_eq_some_iff.1 h).1
  simp [this]
theorem mp_update {w : World} {b : Nat} {l : List (κ × α)} {kk : κ} {v : α} {es : Array MapEntry} {clock : Nat} (h3 : Sat w0 w (Mp ke ve b l :: R)) (hb : w.heap[b]? = some (.map es clock)) {es' : Array MapEntry} {clock' : Nat}
    (hes : es'.toList.map (fun e => (e.key, e.val)) = (ins l kk v).map (fun p => (ke p.1, ve p.2))) (h4 : ∀ e ∈ es'.toList, e.born < clock') (h5 : (es'.toList.map (·.born)).Nodup) :
    Sat w0 { w with heap := w.heap.setIfInBounds b (.map es' clock') } (Mp ke ve b (ins l kk v) :: R) := by
  refine Sat.turn1 (o' := .map es' clock') h3 (fun H hH => ?_) rfl rfl rfl (heap_set_at hb) (fun k hk => by simp [Array.getElem?_setIfInBounds_ne (Ne.symm hk)]) (fun H hH => ?_)
  · obtain ⟨_, es, clock, hb, _⟩ := hH; rw [hb]; simp
  · obtain ⟨hn, _⟩ := hH
    exact ⟨nodup_ins hn kk v, es', clock', by simp, hes, h4, h5⟩
theorem dv_mapUpdate {T K el : Nat} {x ix y : Operand} {b : Nat} {l : List (κ × α)} (kk : κ) (v : α) [hu : TU P T (.map K el)] (hx : ev e x = some (.map (some b)) := by rfl)
    (hf : Find L (Mp ke ve b l) R := by repeat (first | exact Find.here | apply Find.there)) (hk : ev e ix = some (ke kk) := by rfl) (hy : ev e y = some (ve v) := by rfl) (ht : TK P K ke := by infer_instance) :
    DV P w0 (.mapUpdate T x ix y) ty e L (fun _ L' => L' = Mp ke ve b (ins l kk v) :: R) := dv_of_skip fun tm w pos aft h2 h3 => by
  have h3' := h3.find hf
  obtain ⟨hn, es, clock, hb, hes, hborn, hbn⟩ := Mp.at h3'
  have h4 : (underlying T).run P w = .ok (.map K el) w := run_und hu.out
  have h5 := run_findKey ht kk w hes
  have hins := ins_at l kk v 0
  have hsz : es.size = l.length := by have := congrArg List.length hes; simpa using this
  cases hfi : findIx l kk 0 with
  | none =>
    rw [hfi] at hins h5
    refine ⟨_, _, ?_, rfl, mp_update (kk := kk) (v := v) h3' hb (es' := es.push { key := ke kk, val := ve v, born := clock }) (clock' := clock + 1) ?_ ?_ ?_⟩
    · simp [execOp, Instr.mapUpdate, ev_sound h2 hx, ev_sound h2 hk, ev_sound h2 hy, h4, run_getMap hb, ht.check, h5, run_setMap hb]
    · simp only at hins; rw [hins]; simp [hes]
    · intro en hen
      simp at hen
      rcases hen with h | rfl
      · have := hborn en (by simpa using h); omega
      · simp
    · simp only [Array.toList_push, List.map_append, List.map_cons, List.map_nil]
      rw [List.nodup_append]
      refine ⟨hbn, by simp, ?_⟩
      intro a ha c hc
      simp at hc; subst hc
      obtain ⟨en, hen, rfl⟩ := List.mem_map.1 ha
      have := hborn en hen
      omega
  | some p =>
    obtain ⟨j, u⟩ := p
    rw [hfi] at hins h5
    obtain ⟨m, hjm, hm, hins, hkm⟩ := hins
    obtain rfl : j = m := by omega
    have hjs : j < es.size := by omega
    have hkey : es[j].key = ke kk := by
      have h6 : (es.toList.map (fun e => (e.key, e.val)))[j]? = (l.map (fun p => (ke p.1, ve p.2)))[j]? := by rw [hes]
      have h7 : (l.map (·.1))[j]? = some kk := hkm
      simp only [List.getElem?_map] at h6 h7
      cases hl : l[j]? with
      | none => rw [hl] at h7; simp at h7
      | some q =>
        rw [hl] at h6 h7
        simp [hjs] at h6 h7
        rw [h6.1, h7]
    refine ⟨_, _, ?_, rfl, mp_update (kk := kk) (v := v) h3' hb (es' := es.modify j fun e => { e with key := ke kk, val := ve v }) (clock' := clock) ?_ ?_ ?_⟩
    · have hstay : (Instr.keyThatStays (ke kk) (ke kk)).run P w = .ok (ke kk) w := by simp [Instr.keyThatStays, ht.bits]
      simp [execOp, Instr.mapUpdate, ev_sound h2 hx, ev_sound h2 hk, ev_sound h2 hy, h4, run_getMap hb, ht.check, h5, run_setMap hb, hjs, hkey, hstay]
    · rw [hins]
      apply List.ext_getElem?
      intro i
      have h6 : (es.toList.map (fun e => (e.key, e.val)))[i]? = (l.map (fun p => (ke p.1, ve p.2)))[i]? := by rw [hes]
      simp only [List.getElem?_map, Array.toList_modify, List.getElem?_modify, List.getElem?_set, Array.getElem?_toList] at h6 ⊢
      by_cases hij : j = i
      · subst hij; simp [hjs, hm]
      · simp only [hij, if_false, h6]
        cases h : es[i]? <;> simp [h] at h6 ⊢ <;> exact h6
    · intro en hen
      obtain ⟨i, hi, hie⟩ := List.getElem_of_mem hen
      simp only [Array.toList_modify] at hie hi
      rw [List.getElem_modify] at hie
      have hi' : i < es.toList.length := by simpa using hi
      have := hborn es.toList[i] (List.getElem_mem hi')
      split at hie <;> (rw [← hie]; exact this)
    · have : (es.modify j fun e => { e with key := ke kk, val := ve v }).toList.map (·.born) = es.toList.map (·.born) := by
        apply List.ext_getElem?
        intro i
        simp only [List.getElem?_map, Array.toList_modify, List.getElem?_modify]
        by_cases hij : j = i
        · subst hij; simp [hjs]
        · simp [hij]
      rw [this]; exact hbn
theorem del_at (l : List (κ × α)) (kk : κ) : ∀ i, match findIx l kk i with
    | some (j, _) => ∃ m, j = i + m ∧ m < l.length ∧ del l kk = l.eraseIdx m
    | none => del l kk = l := by
  induction l with
  | nil => intro i; simp [findIx, del]
  | cons p l ih =>
    intro i
    obtain ⟨a, u⟩ := p
    by_cases h : kk = a
    · subst h; simp only [findIx, if_true, del]; exact ⟨0, by simp⟩
    · simp only [findIx, h, if_false, del]
      have := ih (i + 1)
      cases hf : findIx l kk (i + 1) with
      | none => rw [hf] at this; simp only at this ⊢; rw [this]
      | some q =>
        obtain ⟨j, u'⟩ := q
        rw [hf] at this
        obtain ⟨m, h1, h2, h3⟩ := this
        exact ⟨m + 1, by omega, by simpa using h2, by rw [h3]; rfl⟩
theorem dv_delete {T T' K el : Nat} {x ix : Operand} {b : Nat} {l : List (κ × α)} (kk : κ) [hu : TU P T (.map K el)] (hx : ev e x = some (.map (some b)) := by rfl)
    (hf : Find L (Mp ke ve b l) R := by repeat (first | exact Find.here | apply Find.there)) (hk : ev e ix = some (ke kk) := by rfl) (ht : TK P K ke := by infer_instance) :
    DV P w0 (.call ⟨.builtin .delete, #[x, ix], #[T, T']⟩) ty e L (fun _ L' => L' = Mp ke ve b (del l kk) :: R) := dv_of_run fun tm w pos aft h2 h3 => by
  have h3' := h3.find hf
  obtain ⟨hn, es, clock, hb, hes, hborn, hbn⟩ := Mp.at h3'
  have h4 : (underlying T).run P w = .ok (.map K el) w := run_und hu.out
  have h5 := run_findKey ht kk w hes
  have hdel := del_at l kk 0
  have hsz : es.size = l.length := by have := congrArg List.length hes; simpa using this
  have key : ∀ es' : Array MapEntry, es'.toList.map (fun e => (e.key, e.val)) = (del l kk).map (fun p => (ke p.1, ve p.2)) → es'.toList.Sublist es.toList →
      Sat w0 { w with heap := w.heap.setIfInBounds b (.map es' clock) } (Mp ke ve b (del l kk) :: R) := by
    intro es' he hsub
    refine Sat.turn1 (o' := .map es' clock) h3' (fun H hH => ?_) rfl rfl rfl (heap_set_at hb) (fun k hk => by simp [Array.getElem?_setIfInBounds_ne (Ne.symm hk)]) (fun H hH => ?_)
    · obtain ⟨_, es, clock, hb, _⟩ := hH; rw [hb]; simp
    · exact ⟨nodup_del hn kk, es', clock, by simp, he, fun en hen => hborn en (hsub.subset hen), (hsub.map _).nodup hbn⟩
  cases hfi : findIx l kk 0 with
  | none =>
    rw [hfi] at hdel h5
    refine ⟨.tuple #[], _, _, ?_, rfl, key es ?_ (List.Sublist.refl _)⟩
    · simp [execOp, resolve, invoke, builtin, Builtin.delete_, ev_sound h2 hx, ev_sound h2 hk, h4, run_getMap hb, ht.check, h5, run_setMap hb]
    · simp only at hdel; rw [hdel]; exact hes
  | some p =>
    obtain ⟨j, u⟩ := p
    rw [hfi] at hdel h5
    obtain ⟨m, hjm, hm, hdel⟩ := hdel
    obtain rfl : j = m := by omega
    have hjs : j < es.size := by omega
    refine ⟨.tuple #[], _, _, ?_, rfl, key (es.eraseIdxIfInBounds j) ?_ ?_⟩
    · simp [execOp, resolve, invoke, builtin, Builtin.delete_, ev_sound h2 hx, ev_sound h2 hk, h4, run_getMap hb, ht.check, h5, run_setMap hb]
    · rw [hdel]
      simp only [Array.eraseIdxIfInBounds, hjs, dif_pos, Array.toList_eraseIdx]
      have he : ∀ {β γ : Type} (f : β → γ) (l : List β) (i : Nat), (l.eraseIdx i).map f = (l.map f).eraseIdx i := by
        intro β γ f l
        induction l with
        | nil => intro i; rfl
        | cons a l ih => intro i; cases i <;> simp [ih]
      rw [he, he, hes]
    · simp only [Array.eraseIdxIfInBounds, hjs, dif_pos, Array.toList_eraseIdx]
      exact List.eraseIdx_sublist _ _
theorem dv_makeMap {T : Nat} (ke : κ → Value) (ve : α → Value) : DV P w0 (.makeMap T none) ty e L (fun v L' => ∃ b, v = .map (some b) ∧ L' = Mp ke ve b [] :: L) := dv_of_run fun tm w pos aft h2 h3 => by
  refine ⟨.map (some w.heap.size), w.alloc (.map #[] 0), _, by simp [execOp, Instr.makeMap], ⟨_, rfl, rfl⟩, ?_⟩
  refine (h3.alloc (o := .map #[] 0)).map fun _ => SL.head fun H hH => ?_
  exact ⟨by simp, #[], 0, hH, by simp, by simp, by simp⟩
end
end Go.Proofs.YtamecmklcnohjaaGreat.Sep
