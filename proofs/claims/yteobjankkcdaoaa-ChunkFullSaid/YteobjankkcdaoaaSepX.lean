import Derived.Test.YteobjankkcdaoaaSepE
namespace Go.Proofs.Yteobjankkcdaoaa.Sep
open Go.RowKit
set_option linter.unusedSimpArgs false
set_option linter.unusedVariables false

/-! ### regions that draw their order: what only reads is carried out ahead; it may stand over, as long as what it reads stays -/
def bnd (ed : Edge) : Bool := Region.binds .any ed
def depsIn (o : Oper) (vl : List Nat) : Bool := o.after.toList.all fun ed => !bnd ed || vl.contains ed.on
def readyV (ops : Array Oper) (vl : List Nat) : List Nat :=
  (List.range ops.size).filter fun i => !vl.contains i && (match ops[i]? with | some o => depsIn o vl | none => false)
def restr (e : Env) (ts : List Nat) : Env := e.filter fun p => ts.contains p.1
theorem restr_get (e : Env) (ts : List Nat) (t : Nat) : (restr e ts).get t = if ts.contains t then e.get t else none := by
  induction e with
  | nil => simp [restr, Env.get]
  | cons p e ih =>
    obtain ⟨s, v⟩ := p
    simp only [restr, Env.get] at ih ⊢
    by_cases h : ts.contains s = true
    · rw [List.filter_cons_of_pos (by simpa using h)]
      by_cases hs : t = s
      · subst hs; rw [if_pos h]; simp [List.lookup]
      · have : (t == s) = false := by simpa using hs
        simp only [List.lookup, this]; exact ih
    · rw [List.filter_cons_of_neg (by simpa using h)]
      by_cases hs : t = s
      · subst hs; rw [ih]; simp only [h]; simp
      · have : (t == s) = false := by simpa using hs
        simp only [List.lookup, this]; exact ih
theorem restr_ext {e e' : Env} {ts : List Nat} (h : ∀ t, ts.contains t = true → e.get t = e'.get t) {tm : Array Value} (ha : Agree (restr e ts) tm) : Agree (restr e' ts) tm := by
  intro t v hv
  apply ha t v
  simp only [restr_get] at hv ⊢
  by_cases hc : ts.contains t = true
  · rw [if_pos hc] at hv ⊢; rw [h t hc]; exact hv
  · rw [if_neg hc] at hv; cases hv
def wfR (ops : Array Oper) : Bool :=
  (List.range ops.size).all fun i => match ops[i]? with
    | none => false
    | some o => (o.after.toList.all fun ed => !bnd ed || decide (ed.on < i)) && (List.range ops.size).all fun j => match ops[j]? with
      | none => false
      | some oj => (i == j || o.dst.isNone || o.dst != oj.dst) && (match oj.dst with
        | some d => !(o.looksAt ops).contains d || o.after.toList.any (fun ed => bnd ed && ed.on == j) || oj.after.toList.any (fun ed => bnd ed && ed.on == i)
        | none => true)
theorem wfR_at {ops : Array Oper} (h : wfR ops = true) {i : Nat} {o : Oper} (ho : ops[i]? = some o) : (∀ ed ∈ o.after, bnd ed = true → ed.on < i) ∧
    ∀ j oj, ops[j]? = some oj → (i ≠ j → ∀ d, o.dst = some d → oj.dst ≠ some d) ∧ ∀ d, oj.dst = some d → (o.looksAt ops).contains d = true → (∃ ed ∈ o.after, bnd ed = true ∧ ed.on = j) ∨ (∃ ed ∈ oj.after, bnd ed = true ∧ ed.on = i) := by
  have hi : i < ops.size := (Array.getElem?_eq_some_iff.1 ho).1
  have h1 := List.all_eq_true.1 h i (List.mem_range.2 hi)
  simp only [ho, Bool.and_eq_true] at h1
  refine ⟨fun ed hed hb => ?_, fun j oj hoj => ?_⟩
  · have := List.all_eq_true.1 h1.1 ed (Array.mem_toList_iff.2 hed)
    simpa [hb] using this
  · have hj : j < ops.size := (Array.getElem?_eq_some_iff.1 hoj).1
    have h2 := List.all_eq_true.1 h1.2 j (List.mem_range.2 hj)
    simp only [hoj, Bool.and_eq_true] at h2
    refine ⟨fun hne d hd hd' => ?_, fun d hd hl => ?_⟩
    · have := h2.1
      rw [hd, hd'] at this
      simp [hne] at this
    · have h3 := h2.2
      rw [hd] at h3
      simp only [Bool.or_eq_true, hl, Bool.not_true, Bool.false_eq_true, false_or] at h3
      rcases h3 with h3 | h3
      · obtain ⟨ed, he, hb⟩ := List.any_eq_true.1 h3
        replace he := Array.mem_toList_iff.1 he
        simp only [Bool.and_eq_true, beq_iff_eq] at hb
        exact .inl ⟨ed, he, hb.1, hb.2⟩
      · obtain ⟨ed, he, hb⟩ := List.any_eq_true.1 h3
        replace he := Array.mem_toList_iff.1 he
        simp only [Bool.and_eq_true, beq_iff_eq] at hb
        exact .inr ⟨ed, he, hb.1, hb.2⟩
def clos (ops : Array Oper) : Nat → List Nat → List Nat
  | 0, s => s
  | i + 1, s => clos ops i (if s.contains i then (match ops[i]? with | some o => (o.after.toList.filter bnd).map (·.on) ++ s | none => s) else s)
/-- All that an operation waits for, and what that waits for. -/
def waits (ops : Array Oper) (aft : Array Edge) (j : Nat) : Bool := (clos ops ops.size ((aft.toList.filter bnd).map (·.on))).contains j
theorem clos_mem {ops : Array Oper} {Pr : Nat → Prop} (hc : ∀ j o, ops[j]? = some o → Pr j → ∀ ed ∈ o.after, bnd ed = true → Pr ed.on) : ∀ (n : Nat) (s : List Nat), (∀ j ∈ s, Pr j) → ∀ j ∈ clos ops n s, Pr j := by
  intro n
  induction n with
  | zero => intro s hs j hj; exact hs j hj
  | succ i ih =>
    intro s hs j hj
    refine ih _ ?_ j hj
    intro x hx
    split at hx
    · rename_i hi
      cases ho : ops[i]? with
      | none => rw [ho] at hx; exact hs x hx
      | some o =>
        rw [ho] at hx
        rcases List.mem_append.1 hx with h | h
        · obtain ⟨ed, hed, rfl⟩ := List.mem_map.1 h
          obtain ⟨h1, h2⟩ := List.mem_filter.1 hed
          exact hc i o ho (hs i (by simpa using hi)) ed (Array.mem_toList_iff.1 h1) h2
        · exact hs x h
    · exact hs x hx
def putE (e : Env) (d : Option Nat) (v : Value) : Env := match d with | some d => (d, v) :: e | none => e
abbrev Pend := List (Nat × Value × Bool)
/-- An operation that stands over yields v, whenever. -/
def Yields (C : Cx) (ops : Array Oper) (e : Env) (L : List HP) (p : Nat × Value × Bool) : Prop :=
  ∀ o, ops[p.1]? = some o → ∀ tm w, Agree (restr e (o.looksAt ops)) tm → (p.2.2 = false → Sat C.w0 w L) → YieldsAt C.P ops w o p.2.1 ⟨tm, []⟩
structure Good (C : Cx) (ops : Array Oper) (D : Pend) (vl : List Nat) (e : Env) (L : List HP) : Prop where
  wf : wfR ops = true
  yields : ∀ p ∈ D, Yields C ops e L p
  bound : ∀ p ∈ D, ∀ o d, ops[p.1]? = some o → o.dst = some d → e.get d = some p.2.1
  has : ∀ p ∈ D, p.1 ∈ vl
  slot : ∀ p ∈ D, ∀ o d, ops[p.1]? = some o → o.dst = some d → d < C.n
  nowar : ∀ p ∈ D, ∀ q ∈ D, ∀ o oq d, ops[p.1]? = some o → ops[q.1]? = some oq → oq.dst = some d → (o.looksAt ops).contains d = true → ∃ ed ∈ o.after, bnd ed = true ∧ ed.on = q.1
  closed : ∀ j ∈ vl, ∀ o, ops[j]? = some o → ∀ ed ∈ o.after, bnd ed = true → ed.on ∈ vl
structure Stands (C : Cx) (ops : Array Oper) (D : Pend) (vl : List Nat) (e : Env) (fuel : Nat) (al : Array Bool) (tm : Array Value) : Prop where
  size : al.size = ops.size
  n : tm.size = C.n
  count : (al.toList.filter (· == false)).length = fuel
  sub : ∀ j, al.getD j false = true → j ∈ vl
  done : ∀ j o, ops[j]? = some o → al.getD j false = true → ∀ ed ∈ o.after, bnd ed = true → al.getD ed.on false = true
  over : ∀ j ∈ vl, al.getD j true = false → ∃ p ∈ D, p.1 = j
  agree : ∀ t u, e.get t = some u → tm[t]? = some u ∨ ∃ p ∈ D, al.getD p.1 true = false ∧ ∃ o, ops[p.1]? = some o ∧ o.dst = some t
def XD (C : Cx) (ops : Array Oper) (k : List KI) (D : Pend) (vl : List Nat) (e : Env) (L : List HP) : Prop :=
  Good C ops D vl e L → ∀ fuel al tm w, Stands C ops D vl e fuel al tm → Sat C.w0 w L → wpAny C.P .any ops (kq C k) fuel al ⟨tm, []⟩ w
section
variable {C : Cx} {ops : Array Oper} {k : List KI} {D : Pend} {vl : List Nat} {e : Env} {L : List HP}
theorem X_draw {id : Nat} (hm : C.P.follows .mixedOrders = true) (hw : wfR ops = true) (h : XD C ops k [] [] e L) : X C k (.region id ops true) e L := by
  intro tm w h1 h2 h3
  refine wp_region_any hm (h ⟨hw, fun _ h => (by cases h), fun _ h => (by cases h), fun _ h => (by cases h), fun _ h => (by cases h), fun _ h => (by cases h), fun _ h => (by cases h)⟩ _ _ tm _ ⟨by simp, h1, ?_, fun j hj => ?_, fun j o _ hj => ?_, fun _ h => (by cases h), fun t u hu => .inl (h2 t u hu)⟩ ⟨h3.os, h3.tape, h3.output, h3.mem⟩)
  · simp
  · rw [getD_replicate_false] at hj; cases hj
  · rw [getD_replicate_false] at hj; cases hj
theorem unlisted_of {al : Array Bool} {j : Nat} (hs : j < al.size) (h : ¬ al.getD j false = true) : al.getD j true = false := by
  simp [hs] at h ⊢; exact h
theorem listed_of {al : Array Bool} {j : Nat} (h : al.getD j false = true) : ¬ al.getD j true = false := by
  rcases Nat.lt_or_ge j al.size with hs | hs
  · simp [hs] at h ⊢; exact h
  · simp [hs] at h
theorem count_set {al : Array Bool} {j : Nat} (h : al.getD j true = false) {f : Nat} (hc : (al.toList.filter (· == false)).length = f + 1) : ((al.setIfInBounds j true).toList.filter (· == false)).length = f := by
  have hs : j < al.size := by
    rcases Nat.lt_or_ge j al.size with hs | hs
    · exact hs
    · simp [hs] at h
  have hj : al.toList[j]? = some false := by simp [hs] at h ⊢; exact h
  rw [Array.toList_setIfInBounds]
  have key : ∀ (l : List Bool) (j f : Nat), l[j]? = some false → (l.filter (· == false)).length = f + 1 → ((l.set j true).filter (· == false)).length = f := by
    intro l
    induction l with
    | nil => intro j f hj; simp at hj
    | cons b l ih =>
      intro j f hj hc
      cases j with
      | zero =>
        simp at hj; subst hj
        simpa using hc
      | succ j =>
        simp at hj
        rw [List.set_cons_succ]
        cases b with
        | true => simp at hc ⊢; simpa using ih j f hj (by simpa using hc)
        | false =>
          simp at hc
          cases f with
          | zero =>
            have hm : false ∈ l.filter (· == false) := by
              rw [List.mem_filter]; exact ⟨List.mem_of_getElem? hj, rfl⟩
            have h0 : (l.filter (· == false)).length = 0 := by simpa using hc
            rw [List.length_eq_zero_iff] at h0
            rw [h0] at hm; cases hm
          | succ f =>
            have := ih j f hj (by simpa using hc)
            simpa using this
  exact key _ _ _ hj hc
theorem getD_at {al : Array Bool} {i j : Nat} {d : Bool} (h : i ≠ j) : (al.setIfInBounds i true).getD j d = al.getD j d := by
  simp [Array.getElem?_setIfInBounds_ne h]
/-- What only reads, ahead. -/
theorem XD_read {i d : Nat} {v : Value} {b : Bool} {o : Oper} (ho : ops[i]? = some o) (hd : o.dst = some d) (hi : vl.contains i = false) (hr : depsIn o vl = true) (hl : (o.looksAt ops).contains d = false)
    (hdis : (D.all fun p => match ops[p.1]? with | some oj => !(oj.looksAt ops).contains d | none => true) = true)
    (hdn : d < C.n) (hv : ∀ tm w, Agree (restr e (o.looksAt ops)) tm → (b = false → Sat C.w0 w L) → YieldsAt C.P ops w o v ⟨tm, []⟩) (h : XD C ops k ((i, v, b) :: D) (i :: vl) ((d, v) :: e) L) : XD C ops k D vl e L := by
  intro G fuel al tm w S hs
  have hi' : i ∉ vl := fun hm => by simp at hi; exact hi hm
  have hget : ∀ t, t ≠ d → Env.get ((d, v) :: e) t = e.get t := fun t ht => by
    have : (t == d) = false := by simpa using ht
    simp [Env.get, List.lookup, this]
  have hself : Env.get ((d, v) :: e) d = some v := by simp [Env.get, List.lookup]
  have hil : al.getD i true = false := unlisted_of (by rw [S.size]; exact (Array.getElem?_eq_some_iff.1 ho).1) fun hh => hi' (S.sub i hh)
  refine h ⟨G.wf, ?_, ?_, ?_, ?_, ?_, ?_⟩ fuel al tm w ⟨S.size, S.n, S.count, fun j hj => List.mem_cons_of_mem _ (S.sub j hj), S.done, ?_, ?_⟩ hs
  · intro p hp
    rcases List.mem_cons.1 hp with rfl | hp
    · intro o' ho' tm' w' ha hsat
      obtain rfl : o = o' := Option.some.inj (ho.symm.trans ho')
      refine hv tm' w' (restr_ext (fun t ht => hget t ?_) ha) hsat
      rintro rfl; rw [hl] at ht; cases ht
    · intro oj hoj tm' w' ha hsat
      refine G.yields p hp oj hoj tm' w' (restr_ext (fun t ht => hget t ?_) ha) hsat
      rintro rfl
      have := List.all_eq_true.1 hdis p hp
      simp only [hoj, ht] at this
      cases this
  · intro p hp o' d' ho' hd'
    rcases List.mem_cons.1 hp with rfl | hp
    · obtain rfl : o = o' := Option.some.inj (ho.symm.trans ho')
      obtain rfl : d = d' := Option.some.inj (hd.symm.trans hd')
      exact hself
    · have hne : i ≠ p.1 := fun e1 => hi' (e1 ▸ G.has p hp)
      have := ((wfR_at G.wf ho).2 p.1 o' ho').1 hne d hd
      rw [hget d' (fun e1 => this (e1 ▸ hd'))]
      exact G.bound p hp o' d' ho' hd'
  · intro p hp
    rcases List.mem_cons.1 hp with rfl | hp
    · exact List.mem_cons_self
    · exact List.mem_cons_of_mem _ (G.has p hp)
  · intro p hp o' d' ho' hd'
    rcases List.mem_cons.1 hp with rfl | hp
    · obtain rfl : o = o' := Option.some.inj (ho.symm.trans ho')
      obtain rfl : d = d' := Option.some.inj (hd.symm.trans hd')
      exact hdn
    · exact G.slot p hp o' d' ho' hd'
  · intro p hp q hq o' oq d' ho' hoq hd' hlk
    rcases List.mem_cons.1 hp with rfl | hp
    · obtain rfl : o = o' := Option.some.inj (ho.symm.trans ho')
      rcases List.mem_cons.1 hq with rfl | hq
      · obtain rfl : o = oq := Option.some.inj (ho.symm.trans hoq)
        obtain rfl : d = d' := Option.some.inj (hd.symm.trans hd')
        rw [hl] at hlk; cases hlk
      · rcases ((wfR_at G.wf ho).2 q.1 oq hoq).2 d' hd' hlk with h1 | ⟨ed, h1, h2, h3⟩
        · exact h1
        · exact absurd (h3 ▸ G.closed q.1 (G.has q hq) oq hoq ed h1 h2) hi'
    · rcases List.mem_cons.1 hq with rfl | hq
      · obtain rfl : o = oq := Option.some.inj (ho.symm.trans hoq)
        obtain rfl : d = d' := Option.some.inj (hd.symm.trans hd')
        have := List.all_eq_true.1 hdis p hp
        simp only [ho', hlk] at this
        cases this
      · exact G.nowar p hp q hq o' oq d' ho' hoq hd' hlk
  · intro j hj o' ho' ed hed hb
    rcases List.mem_cons.1 hj with rfl | hj
    · obtain rfl : o = o' := Option.some.inj (ho.symm.trans ho')
      have := List.all_eq_true.1 hr ed (Array.mem_toList_iff.2 hed)
      simp [hb] at this
      exact List.mem_cons_of_mem _ this
    · exact List.mem_cons_of_mem _ (G.closed j hj o' ho' ed hed hb)
  · intro j hj hjl
    rcases List.mem_cons.1 hj with rfl | hj
    · exact ⟨_, List.mem_cons_self, rfl⟩
    · obtain ⟨p, hp, hpe⟩ := S.over j hj hjl
      exact ⟨p, List.mem_cons_of_mem _ hp, hpe⟩
  · intro t u hu
    by_cases ht : t = d
    · subst ht
      exact .inr ⟨(i, v, b), List.mem_cons_self, hil, o, ho, hd⟩
    · rw [hget t ht] at hu
      rcases S.agree t u hu with h1 | ⟨p, hp, h1, h2⟩
      · exact .inl h1
      · exact .inr ⟨p, List.mem_cons_of_mem _ hp, h1, h2⟩
/-- One operation that acts, when all that it waits for is done. -/
def Acts (C : Cx) (ops : Array Oper) (k : List KI) (D : Pend) (vl : List Nat) (e : Env) (L : List HP) (i : Nat) : Prop :=
  ∃ o, ops[i]? = some o ∧ ∀ tm w (K : Act → World → Prop), tm.size = C.n → Agree (restr e (o.looksAt ops)) tm → Sat C.w0 w L →
    (∀ v w' L', (∀ x, o.dst = some x → x < C.n) → Sat C.w0 w' L' → (∀ p ∈ D, (waits ops o.after p.1) = false → Yields C ops (putE e o.dst v) L' p) →
      XD C ops k (D.filter fun p => !(waits ops o.after p.1)) (i :: vl) (putE e o.dst v) L' → K ((Act.mk tm []).put o.dst v) w') → wpOp C.P ops (kq C k) i K ⟨tm, []⟩ w
theorem mem_readyV {i : Nat} : i ∈ readyV ops vl ↔ i ∉ vl ∧ ∃ o, ops[i]? = some o ∧ depsIn o vl = true := by
  unfold readyV
  rw [List.mem_filter, List.mem_range]
  constructor
  · rintro ⟨h1, h2⟩
    simp only [Bool.and_eq_true, Bool.not_eq_true'] at h2
    refine ⟨by simpa using h2.1, ?_⟩
    cases ho : ops[i]? with
    | none => rw [ho] at h2; simp at h2
    | some o => rw [ho] at h2; exact ⟨o, rfl, h2.2⟩
  · rintro ⟨h1, o, ho, h2⟩
    exact ⟨(Array.getElem?_eq_some_iff.1 ho).1, by simp [ho, h1, h2]⟩
theorem XD_act (hw : ∀ i ∈ readyV ops vl, Acts C ops k D vl e L i) (hend : readyV ops vl = [] → XE C k .normal e L) : XD C ops k D vl e L := by
  intro G fuel
  induction fuel with
  | zero =>
    intro al tm w S hs
    have hall : ∀ j, j < al.size → al.getD j true = false → False := by
      intro j hj hf
      have h0 := S.count
      rw [List.length_eq_zero_iff] at h0
      have hm : false ∈ al.toList.filter (· == false) := by
        rw [List.mem_filter]
        refine ⟨?_, rfl⟩
        have : al.toList[j]? = some false := by simp [hj] at hf ⊢; exact hf
        exact List.mem_of_getElem? this
      rw [h0] at hm; cases hm
    have hr : Region.ready .any ops al = [] := by
      cases hc : Region.ready .any ops al with
      | nil => rfl
      | cons i l =>
        have hm : i ∈ Region.ready .any ops al := by rw [hc]; exact List.mem_cons_self
        obtain ⟨h1, o, ho, _⟩ := mem_ready.1 hm
        exact (hall i (by rw [S.size]; exact (Array.getElem?_eq_some_iff.1 ho).1) h1).elim
    have hv : readyV ops vl = [] := by
      cases hc : readyV ops vl with
      | nil => rfl
      | cons i l =>
        have hm : i ∈ readyV ops vl := by rw [hc]; exact List.mem_cons_self
        obtain ⟨h1, o, ho, _⟩ := mem_readyV.1 hm
        have hsz : i < al.size := by rw [S.size]; exact (Array.getElem?_eq_some_iff.1 ho).1
        refine (hall i hsz (unlisted_of hsz fun hh => h1 (S.sub i hh))).elim
    refine ⟨hr, hend hv tm w S.n (fun t u hu => ?_) hs⟩
    rcases S.agree t u hu with h1 | ⟨p, hp, h1, o, ho, _⟩
    · exact h1
    · exact (hall p.1 (by rw [S.size]; exact (Array.getElem?_eq_some_iff.1 ho).1) h1).elim
  | succ fuel ih =>
    intro al tm w S hs
    refine ⟨fun hr => ?_, fun i hi => ?_⟩
    · exfalso
      have hex : ∃ j, j < al.size ∧ al.getD j true = false := by
        have h0 := S.count
        have hm : ∃ b, b ∈ al.toList.filter (· == false) := by
          cases hc : al.toList.filter (· == false) with
          | nil => rw [hc] at h0; simp at h0
          | cons b l => exact ⟨b, List.mem_cons_self⟩
        obtain ⟨b, hb⟩ := hm
        rw [List.mem_filter] at hb
        obtain ⟨hb1, hb2⟩ := hb
        obtain ⟨j, hj, hjb⟩ := List.getElem_of_mem hb1
        have : b = false := by simpa using hb2
        subst this
        have hjs : j < al.size := by simpa using hj
        exact ⟨j, hjs, by simp [hjs]; simpa using hjb⟩
      obtain ⟨j, hj⟩ := hex
      have key : ∀ m j, j ≤ m → j < al.size → al.getD j true = false → ∃ i, i ∈ Region.ready .any ops al := by
        intro m
        induction m with
        | zero =>
          intro j hjm hjs hjl
          have h0 : j < ops.size := by rw [← S.size]; exact hjs
          refine ⟨j, mem_ready.2 ⟨hjl, ops[j], by simp [h0], fun ed hed hb => ?_⟩⟩
          have := (wfR_at G.wf (i := j) (o := ops[j]) (by simp [h0])).1 ed hed hb
          omega
        | succ m ihm =>
          intro j hjm hjs hjl
          have h0 : j < ops.size := by rw [← S.size]; exact hjs
          by_cases hall : ∀ ed ∈ ops[j].after, Region.binds .any ed = true → al.getD ed.on false = true
          · exact ⟨j, mem_ready.2 ⟨hjl, ops[j], by simp [h0], hall⟩⟩
          · simp only [Classical.not_forall] at hall
            obtain ⟨ed, hed, hb, hnl⟩ := hall
            have hlt := (wfR_at G.wf (i := j) (o := ops[j]) (by simp [h0])).1 ed hed hb
            exact ihm ed.on (by omega) (by omega) (unlisted_of (by omega) hnl)
      obtain ⟨i, hi⟩ := key j j (Nat.le_refl _) hj.1 hj.2
      rw [hr] at hi; cases hi
    · obtain ⟨hil, o, ho, hdeps⟩ := mem_ready.1 hi
      have hlist : ∀ ed ∈ o.after, bnd ed = true → al.getD ed.on false = true := hdeps
      have hcount := count_set hil S.count
      have hsz : i < al.size := by rw [S.size]; exact (Array.getElem?_eq_some_iff.1 ho).1
      have hsub' : ∀ j, (al.setIfInBounds i true).getD j false = true → j = i ∨ j ∈ vl := by
        intro j hj
        by_cases e1 : j = i
        · exact .inl e1
        · rw [getD_at (Ne.symm e1)] at hj; exact .inr (S.sub j hj)
      have hdone' : ∀ j o', ops[j]? = some o' → (al.setIfInBounds i true).getD j false = true → ∀ ed ∈ o'.after, bnd ed = true → (al.setIfInBounds i true).getD ed.on false = true := by
        intro j o' ho' hj ed hed hb
        have hkeep : ∀ x, al.getD x false = true → (al.setIfInBounds i true).getD x false = true := by
          intro x hx
          by_cases e1 : i = x
          · subst e1; simp [hsz]
          · rw [getD_at e1]; exact hx
        by_cases e1 : i = j
        · subst e1
          obtain rfl : o = o' := Option.some.inj (ho.symm.trans ho')
          exact hkeep _ (hlist ed hed hb)
        · rw [getD_at e1] at hj
          exact hkeep _ (S.done j o' ho' hj ed hed hb)
      by_cases hiv : i ∈ vl
      · obtain ⟨p, hp, rfl⟩ := S.over i hiv hil
        have hag : Agree (restr e (o.looksAt ops)) tm := by
          intro t u hu
          rw [restr_get] at hu
          by_cases hc : (o.looksAt ops).contains t = true
          · rw [if_pos hc] at hu
            rcases S.agree t u hu with h1 | ⟨q, hq, h1, oq, hoq, hdq⟩
            · exact h1
            · obtain ⟨ed, he, hb, hon⟩ := G.nowar p hp q hq o oq t ho hoq hdq hc
              exact absurd h1 (listed_of (hon ▸ hlist ed he hb))
          · rw [if_neg hc] at hu; cases hu
        have hy := G.yields p hp o ho tm w hag fun _ => hs
        refine wpOp_of_stOp (K := fun a => wpAny C.P .any ops (kq C k) fuel (al.setIfInBounds p.1 true) a w) (fun a h => h) (hy.stOp ho ?_)
        have hput : ∀ t u, e.get t = some u → (((Act.mk tm []).put o.dst p.2.1).tmps)[t]? = some u ∨ ∃ q ∈ D, (al.setIfInBounds p.1 true).getD q.1 true = false ∧ ∃ o, ops[q.1]? = some o ∧ o.dst = some t := by
          intro t u hu
          by_cases hdt : o.dst = some t
          · left
            have hb := G.bound p hp o t ho hdt
            rw [hu] at hb
            have hlt := G.slot p hp o t ho hdt
            simp only [Act.put, hdt]
            have := Option.some.inj hb
            subst this
            simp [S.n, hlt]
          · rcases S.agree t u hu with h1 | ⟨q, hq, h1, oq, hoq, hdq⟩
            · left
              cases hd : o.dst with
              | none => exact h1
              | some d =>
                have hne : d ≠ t := fun e1 => hdt (by rw [hd, e1])
                simp only [Act.put]
                rw [Array.getElem?_setIfInBounds_ne hne]; exact h1
            · right
              have hne : p.1 ≠ q.1 := by
                intro e1
                rw [← e1, ho] at hoq
                have := Option.some.inj hoq
                subst this
                exact hdt hdq
              exact ⟨q, hq, by rw [getD_at hne]; exact h1, oq, hoq, hdq⟩
        have S' : Stands C ops D vl e fuel (al.setIfInBounds p.1 true) ((Act.mk tm []).put o.dst p.2.1).tmps :=
          ⟨by simp [S.size], by cases hd : o.dst <;> simp [Act.put, hd, S.n], hcount, fun j hj => by
            rcases hsub' j hj with h1 | h1
            · rw [h1]; exact hiv
            · exact h1, hdone', fun j hj hjl => by
            have hne : p.1 ≠ j := by
              rintro rfl
              simp [hsz] at hjl
            rw [getD_at hne] at hjl
            exact S.over j hj hjl, hput⟩
        have := ih (al.setIfInBounds p.1 true) _ w S' hs
        cases hd : o.dst <;> (simp only [Act.put, hd] at this ⊢; exact this)
      · have hdv : depsIn o vl = true := by
          unfold depsIn
          rw [List.all_eq_true]
          intro ed hed
          replace hed := Array.mem_toList_iff.1 hed
          cases hb : bnd ed with
          | false => rfl
          | true => simp; exact S.sub _ (hlist ed hed hb)
        obtain ⟨o', ho', hact⟩ := hw i (mem_readyV.2 ⟨hiv, o, ho, hdv⟩)
        obtain rfl : o = o' := Option.some.inj (ho.symm.trans ho')
        have hag : Agree (restr e (o.looksAt ops)) tm := by
          intro t u hu
          rw [restr_get] at hu
          by_cases hc : (o.looksAt ops).contains t = true
          · rw [if_pos hc] at hu
            rcases S.agree t u hu with h1 | ⟨q, hq, h1, oq, hoq, hdq⟩
            · exact h1
            · rcases ((wfR_at G.wf ho).2 q.1 oq hoq).2 t hdq hc with ⟨ed, he, hb, hon⟩ | ⟨ed, he, hb, hon⟩
              · exact absurd h1 (listed_of (hon ▸ hlist ed he hb))
              · exact absurd (hon ▸ G.closed q.1 (G.has q hq) oq hoq ed he hb) hiv
          · rw [if_neg hc] at hu; cases hu
        refine hact tm w _ S.n hag hs ?_
        intro v w' L' hdn hs' hy hX
        have hafter : ∀ q ∈ D, al.getD q.1 true = false → (waits ops o.after q.1) = false := by
          intro q hq hql
          rw [← Bool.not_eq_true]
          intro hw'
          have := clos_mem (ops := ops) (Pr := fun x => al.getD x false = true) (fun j o' ho' hj ed hed hb => S.done j o' ho' hj ed hed hb) ops.size ((o.after.toList.filter bnd).map (·.on)) (fun j hj => by
            obtain ⟨ed, hed, rfl⟩ := List.mem_map.1 hj
            obtain ⟨h1, h2⟩ := List.mem_filter.1 hed
            exact hlist ed (Array.mem_toList_iff.1 h1) h2) q.1 (by simpa [waits] using hw')
          exact listed_of this hql
        have hget : ∀ t, o.dst ≠ some t → Env.get (putE e o.dst v) t = e.get t := by
          intro t ht
          cases hd : o.dst with
          | none => simp [putE]
          | some d =>
            have : (t == d) = false := by
              have : t ≠ d := fun e1 => ht (by rw [hd, e1])
              simpa using this
            simp [putE, Env.get, List.lookup, this]
        have hne : ∀ q ∈ D, i ≠ q.1 := fun q hq e1 => hiv (e1 ▸ G.has q hq)
        have hmem : ∀ q, q ∈ D.filter (fun p => !(waits ops o.after p.1)) → q ∈ D ∧ waits ops o.after q.1 = false := by
          intro q hq
          have := List.mem_filter.1 hq
          exact ⟨this.1, by simpa using this.2⟩
        rw [show (Act.mk tm []).put o.dst v = ⟨((Act.mk tm []).put o.dst v).tmps, []⟩ from by cases o.dst <;> rfl]
        refine hX ⟨G.wf, fun q hq => hy q (hmem q hq).1 (hmem q hq).2, ?_, fun q hq => List.mem_cons_of_mem _ (G.has q (hmem q hq).1), fun q hq => G.slot q (hmem q hq).1, fun q hq r hr => G.nowar q (hmem q hq).1 r (hmem r hr).1, ?_⟩ fuel _ _ w' ⟨by simp [S.size], by cases o.dst <;> simp [Act.put, S.n], hcount, ?_, hdone', ?_, ?_⟩ hs'
        · intro q hq oq d hoq hd
          have hqD := (hmem q hq).1
          have hdd : o.dst ≠ some d := fun e1 => ((wfR_at G.wf ho).2 q.1 oq hoq).1 (hne q hqD) d e1 hd
          rw [hget d hdd]
          exact G.bound q hqD oq d hoq hd
        · intro j hj oj hoj ed hed hb
          rcases List.mem_cons.1 hj with rfl | hj
          · obtain rfl : o = oj := Option.some.inj (ho.symm.trans hoj)
            exact List.mem_cons_of_mem _ (S.sub _ (hlist ed hed hb))
          · exact List.mem_cons_of_mem _ (G.closed j hj oj hoj ed hed hb)
        · intro j hj
          rcases hsub' j hj with h1 | h1
          · rw [h1]; exact List.mem_cons_self
          · exact List.mem_cons_of_mem _ h1
        · intro j hj hjl
          have hij : i ≠ j := by
            rintro rfl
            simp [hsz] at hjl
          rw [getD_at hij] at hjl
          rcases List.mem_cons.1 hj with h1 | h1
          · exact absurd h1.symm hij
          · obtain ⟨q, hq, hqe⟩ := S.over j h1 hjl
            exact ⟨q, List.mem_filter.2 ⟨hq, by simpa using hafter q hq (hqe ▸ hjl)⟩, hqe⟩
        · intro t u hu
          by_cases hdt : o.dst = some t
          · left
            have hlt := hdn t hdt
            simp only [Act.put, hdt] at hu ⊢
            simp [putE, Env.get, List.lookup] at hu
            subst hu
            simp [S.n, hlt]
          · rw [hget t hdt] at hu
            rcases S.agree t u hu with h1 | ⟨q, hq, h1, oq, hoq, hdq⟩
            · left
              cases hd : o.dst with
              | none => exact h1
              | some d =>
                have hne : d ≠ t := fun e1 => hdt (by rw [hd, e1])
                simp only [Act.put]
                rw [Array.getElem?_setIfInBounds_ne hne]; exact h1
            · right
              exact ⟨q, List.mem_filter.2 ⟨hq, by simpa using hafter q hq h1⟩, by rw [getD_at (hne q hq)]; exact h1, oq, hoq, hdq⟩
/-! the rules, one operation at a time -/
def rdK : Op → Bool
  | .move _ | .pick .. | .build .. | .fieldAddr .. | .field .. | .unOp .. | .makeFunc .. | .extract .. | .load .. | .nilCheck _ | .binOp .. | .convert .. | .indexAddr .. | .index .. | .lookup .. | .slice .. => true
  | .call ⟨.builtin .len, _, _⟩ | .call ⟨.builtin .cap, _, _⟩ | .call ⟨.builtin .max, _, _⟩ | .call ⟨.builtin .min, _, _⟩ => true
  | _ => false
def pickR (ops : Array Oper) (vl : List Nat) : Option Nat :=
  (List.range ops.size).find? fun i => !vl.contains i && (match ops[i]? with | some o => rdK o.op && depsIn o vl | none => false)
def XDi (C : Cx) (ops : Array Oper) (k : List KI) (D : Pend) (vl : List Nat) (e : Env) (L : List HP) (i : Nat) (o : Oper) : Prop :=
  ops[i]? = some o → vl.contains i = false → depsIn o vl = true → XD C ops k D vl e L
theorem XD_pick {i : Nat} {o : Oper} (hi : pickR ops vl = some i := by rfl) (ho : ops[i]? = some o := by rfl) (h : XDi C ops k D vl e L i o) : XD C ops k D vl e L := by
  have h1 := List.find?_some hi
  simp only [ho, Bool.and_eq_true, Bool.not_eq_true'] at h1
  exact h ho h1.1 h1.2.2
end
section
variable {P : Program} {w0 : World} {n : Nat} {Q : Exit → Act → World → Prop} {ops : Array Oper} {k : List KI} {D : Pend} {vl : List Nat} {e : Env} {L R : List HP} {i d : Nat} {op : Op} {ty : TypeId} {pos : String} {aft : Array Edge} {v : Value}
theorem XDi_gen {b : Bool} {g : Option (Nat × Bool)} (hw : ∀ tm, Agree (restr e (Oper.looksAt ops ⟨some d, op, ty, pos, aft, g⟩)) tm → Region.wanted ⟨some d, op, ty, pos, aft, g⟩ (yielded ops tm) = true)
    (hv : ∀ tm w pos aft', Agree (restr e (Oper.looksAt ops ⟨some d, op, ty, pos, aft, g⟩)) tm → (b = false → Sat w0 w L) → (execOp (Act.mk tm []).eval ⟨none, op, ty, pos, aft', none⟩).run P w = .ok (.value v) w)
    (hl : (Oper.looksAt ops ⟨some d, op, ty, pos, aft, g⟩).contains d = false) (hdis : (D.all fun p => match ops[p.1]? with | some oj => !(oj.looksAt ops).contains d | none => true) = true) (hdn : d < n)
    (h : XD ⟨P, w0, n, Q⟩ ops k ((i, v, b) :: D) (i :: vl) ((d, v) :: e) L) : XDi ⟨P, w0, n, Q⟩ ops k D vl e L i ⟨some d, op, ty, pos, aft, g⟩ := by
  intro ho hi hr
  refine XD_read ho rfl hi hr hl hdis hdn ?_ h
  intro tm w ha hs
  exact .inl ⟨hw tm ha, .inl (hv tm w pos aft ha hs)⟩
theorem XDi_pv (hv : PV P op ty (restr e (Oper.looksAt ops ⟨some d, op, ty, pos, aft, none⟩)) v)
    (hl : (Oper.looksAt ops ⟨some d, op, ty, pos, aft, none⟩).contains d = false := by kernel_rfl) (hdis : (D.all fun p => match ops[p.1]? with | some oj => !(oj.looksAt ops).contains d | none => true) = true := by kernel_rfl) (hdn : d < n := by exact Nat.le_of_ble_eq_true rfl)
    (h : XD ⟨P, w0, n, Q⟩ ops k ((i, v, true) :: D) (i :: vl) ((d, v) :: e) L) : XDi ⟨P, w0, n, Q⟩ ops k D vl e L i ⟨some d, op, ty, pos, aft, none⟩ :=
  XDi_gen (b := true) (fun _ _ => rfl) (fun tm w pos aft ha _ => hv tm w pos aft ha) hl hdis hdn h
theorem XDi_rv (hv : RV P w0 op ty (restr e (Oper.looksAt ops ⟨some d, op, ty, pos, aft, none⟩)) L v)
    (hl : (Oper.looksAt ops ⟨some d, op, ty, pos, aft, none⟩).contains d = false := by kernel_rfl) (hdis : (D.all fun p => match ops[p.1]? with | some oj => !(oj.looksAt ops).contains d | none => true) = true := by kernel_rfl) (hdn : d < n := by exact Nat.le_of_ble_eq_true rfl)
    (h : XD ⟨P, w0, n, Q⟩ ops k ((i, v, false) :: D) (i :: vl) ((d, v) :: e) L) : XDi ⟨P, w0, n, Q⟩ ops k D vl e L i ⟨some d, op, ty, pos, aft, none⟩ :=
  XDi_gen (b := false) (fun _ _ => rfl) (fun tm w pos aft ha hs => hv tm w pos aft ha (hs rfl)) hl hdis hdn h
theorem guard_looks {j t : Nat} {want : Bool} (hj : (ops[j]?).bind (·.dst) = some t) : (Oper.looksAt ops ⟨some d, op, ty, pos, aft, some (j, want)⟩).contains t = true := by
  simp [Oper.looksAt, hj]
theorem wanted_of {j t : Nat} {want b : Bool} (hj : (ops[j]?).bind (·.dst) = some t) (ht : e.get t = some (.bool b)) {tm : Array Value} (ha : Agree (restr e (Oper.looksAt ops ⟨some d, op, ty, pos, aft, some (j, want)⟩)) tm) :
    Region.wanted ⟨some d, op, ty, pos, aft, some (j, want)⟩ (yielded ops tm) = (b == want) := by
  have h1 : tm[t]? = some (.bool b) := ha t _ (by rw [restr_get, if_pos (guard_looks hj)]; exact ht)
  have := yielded_of (all := ops) hj h1
  cases b <;> cases want <;> simp [Region.wanted, this]
theorem XDi_pvG {j t : Nat} {want : Bool} (hj : (ops[j]?).bind (·.dst) = some t := by rfl) (ht : e.get t = some (.bool want) := by rfl) (hv : PV P op ty (restr e (Oper.looksAt ops ⟨some d, op, ty, pos, aft, some (j, want)⟩)) v)
    (hl : (Oper.looksAt ops ⟨some d, op, ty, pos, aft, some (j, want)⟩).contains d = false := by kernel_rfl) (hdis : (D.all fun p => match ops[p.1]? with | some oj => !(oj.looksAt ops).contains d | none => true) = true := by kernel_rfl) (hdn : d < n := by exact Nat.le_of_ble_eq_true rfl)
    (h : XD ⟨P, w0, n, Q⟩ ops k ((i, v, true) :: D) (i :: vl) ((d, v) :: e) L) : XDi ⟨P, w0, n, Q⟩ ops k D vl e L i ⟨some d, op, ty, pos, aft, some (j, want)⟩ :=
  XDi_gen (b := true) (fun _ ha => by rw [wanted_of hj ht ha]; simp) (fun tm w pos aft ha _ => hv tm w pos aft ha) hl hdis hdn h
theorem XDi_rvG {j t : Nat} {want : Bool} (hj : (ops[j]?).bind (·.dst) = some t := by rfl) (ht : e.get t = some (.bool want) := by rfl) (hv : RV P w0 op ty (restr e (Oper.looksAt ops ⟨some d, op, ty, pos, aft, some (j, want)⟩)) L v)
    (hl : (Oper.looksAt ops ⟨some d, op, ty, pos, aft, some (j, want)⟩).contains d = false := by kernel_rfl) (hdis : (D.all fun p => match ops[p.1]? with | some oj => !(oj.looksAt ops).contains d | none => true) = true := by kernel_rfl) (hdn : d < n := by exact Nat.le_of_ble_eq_true rfl)
    (h : XD ⟨P, w0, n, Q⟩ ops k ((i, v, false) :: D) (i :: vl) ((d, v) :: e) L) : XDi ⟨P, w0, n, Q⟩ ops k D vl e L i ⟨some d, op, ty, pos, aft, some (j, want)⟩ :=
  XDi_gen (b := false) (fun _ ha => by rw [wanted_of hj ht ha]; simp) (fun tm w pos aft ha hs => hv tm w pos aft ha (hs rfl)) hl hdis hdn h
theorem XDi_gF {j t : Nat} {want b : Bool} (hj : (ops[j]?).bind (·.dst) = some t := by rfl) (ht : e.get t = some (.bool b) := by rfl) (hb : b = !want := by rfl)
    (hl : (Oper.looksAt ops ⟨some d, op, ty, pos, aft, some (j, want)⟩).contains d = false := by kernel_rfl) (hdis : (D.all fun p => match ops[p.1]? with | some oj => !(oj.looksAt ops).contains d | none => true) = true := by kernel_rfl) (hdn : d < n := by exact Nat.le_of_ble_eq_true rfl)
    (h : XD ⟨P, w0, n, Q⟩ ops k ((i, undef, true) :: D) (i :: vl) ((d, undef) :: e) L) : XDi ⟨P, w0, n, Q⟩ ops k D vl e L i ⟨some d, op, ty, pos, aft, some (j, want)⟩ := by
  intro ho hi hr
  refine XD_read ho rfl hi hr hl hdis hdn ?_ h
  intro tm w ha _
  refine .inr ⟨?_, rfl⟩
  rw [wanted_of hj ht ha, hb]
  cases want <;> rfl
theorem get_same {e : Env} {t : Nat} {v : Value} (ht : e.get t = some v) : ∀ s, Env.get ((t, v) :: e) s = e.get s := by
  intro s
  by_cases h : s = t
  · subst h; rw [ht]; simp [Env.get, List.lookup]
  · have : (s == t) = false := by simpa using h
    simp [Env.get, List.lookup, this]
theorem XD_reval {C : Cx} (t : Nat) {v : Value} (v' : Value) (ht : e.get t = some v := by rfl) (hv : v = v') (h : XD C ops k D vl ((t, v') :: e) L) : XD C ops k D vl e L := by
  subst hv
  have hg := get_same ht
  intro G fuel al tm w S hs
  refine h ⟨G.wf, fun p hp o ho tm w ha hsat => G.yields p hp o ho tm w (restr_ext (fun s _ => hg s) ha) hsat, fun p hp o d ho hd => by rw [hg]; exact G.bound p hp o d ho hd, G.has, G.slot, G.nowar, G.closed⟩ fuel al tm w
    ⟨S.size, S.n, S.count, S.sub, S.done, S.over, fun s u hu => S.agree s u (by rw [← hg]; exact hu)⟩ hs
theorem XD_split {C : Cx} (t : Nat) {b : Bool} (ht : e.get t = some (.bool b) := by rfl) (hT : b = true → XD C ops k D vl ((t, .bool true) :: e) L) (hF : b = false → XD C ops k D vl ((t, .bool false) :: e) L) : XD C ops k D vl e L := by
  cases b with
  | true => exact XD_reval t _ ht rfl (hT rfl)
  | false => exact XD_reval t _ ht rfl (hF rfl)
/-- What stands over is told again, behind an operation that acts. -/
def Keeps (C : Cx) (ops : Array Oper) (e : Env) (L : List HP) (K : Pend) : Prop := ∀ p ∈ K, Yields C ops e L p
theorem keeps_nil {C : Cx} : Keeps C ops e L [] := fun _ h => by cases h
theorem keeps_cons {j : Nat} {K : Pend} {b : Bool} (ho : ops[j]? = some ⟨some d, op, ty, pos, aft, none⟩ := by rfl) (hv : RV P w0 op ty (restr e (Oper.looksAt ops ⟨some d, op, ty, pos, aft, none⟩)) L v) (hb : b = false := by rfl) (h : Keeps ⟨P, w0, n, Q⟩ ops e L K) : Keeps ⟨P, w0, n, Q⟩ ops e L ((j, v, b) :: K) := by
  intro p hp
  rcases List.mem_cons.1 hp with rfl | hp
  · intro o ho' tm w ha hs
    obtain rfl := Option.some.inj (ho.symm.trans ho')
    exact .inl ⟨rfl, .inl (hv tm w pos aft ha (hs hb))⟩
  · exact h p hp
theorem keeps_fnil {C : Cx} {f : Nat × Value × Bool → Bool} : Keeps C ops e L (List.filter f []) := fun _ h => by cases h
theorem keeps_skip {C : Cx} {f : Nat × Value × Bool → Bool} {p : Nat × Value × Bool} {K : Pend} (hf : f p = false := by rfl) (h : Keeps C ops e L (List.filter f K)) : Keeps C ops e L (List.filter f (p :: K)) := by
  rw [List.filter_cons_of_neg (by simp [hf])]; exact h
theorem keeps_take {f : Nat × Value × Bool → Bool} {j : Nat} {K : Pend} {b : Bool} (ho : ops[j]? = some ⟨some d, op, ty, pos, aft, none⟩ := by rfl) (hv : RV P w0 op ty (restr e (Oper.looksAt ops ⟨some d, op, ty, pos, aft, none⟩)) L v) (hb : b = false := by rfl) (h : Keeps ⟨P, w0, n, Q⟩ ops e L (List.filter f K)) :
    Keeps ⟨P, w0, n, Q⟩ ops e L (List.filter f ((j, v, b) :: K)) := by
  intro p hp
  rcases List.mem_cons.1 (List.mem_filter.1 hp).1 with rfl | hq
  · exact keeps_cons ho hv hb (K := []) keeps_nil _ List.mem_cons_self
  · exact h p (List.mem_filter.2 ⟨hq, (List.mem_filter.1 hp).2⟩)
def XDa (C : Cx) (ops : Array Oper) (k : List KI) (D : Pend) (vl : List Nat) (e : Env) (L : List HP) (i : Nat) (o : Oper) : Prop := Good C ops D vl e L → vl.contains i = false → ops[i]? = some o → Acts C ops k D vl e L i
theorem acts_gen {g : Option (Nat × Bool)} {dd : Option Nat} {Φ : Value → List HP → Prop} (hw : ∀ tm, Agree (restr e (Oper.looksAt ops ⟨dd, op, ty, pos, aft, g⟩)) tm → Region.wanted ⟨dd, op, ty, pos, aft, g⟩ (yielded ops tm) = true)
    (hv : DV P w0 op ty (restr e (Oper.looksAt ops ⟨dd, op, ty, pos, aft, g⟩)) L Φ) (hdn : ∀ x, dd = some x → x < n)
    (hk : ∀ v L', Φ v L' → Keeps ⟨P, w0, n, Q⟩ ops (putE e dd v) L' (D.filter fun p => !p.2.2 && !waits ops aft p.1) ∧ XD ⟨P, w0, n, Q⟩ ops k (D.filter fun p => !waits ops aft p.1) (i :: vl) (putE e dd v) L') :
    XDa ⟨P, w0, n, Q⟩ ops k D vl e L i ⟨dd, op, ty, pos, aft, g⟩ := by
  intro G hi ho
  refine ⟨_, ho, fun tm w K hn ha hs hK => ?_⟩
  unfold wpOp
  rw [ho]
  show if Region.wanted _ _ = true then _ else _
  rw [if_pos (hw tm ha)]
  left
  have := hv tm w pos aft dd K (kq ⟨P, w0, n, Q⟩ k) ha hs fun v w' L' hΦ hs' => by
    obtain ⟨h1, h2⟩ := hk v L' hΦ
    refine hK v w' L' hdn hs' (fun p hp hna => ?_) h2
    cases hb : p.2.2 with
    | false => exact h1 p (List.mem_filter.2 ⟨hp, by simp only at hna; simp [hb, hna]⟩)
    | true =>
      intro oj hoj tm' w'' ha' hsat
      refine G.yields p hp oj hoj tm' w'' (restr_ext (fun t ht => ?_) ha') (fun h => by rw [hb] at h; cases h)
      cases dd with
      | none => rfl
      | some d =>
        show Env.get ((d, v) :: e) t = e.get t
        by_cases hd : t = d
        · subst hd
          have hi' : i ∉ vl := fun hm => by simp at hi; exact hi hm
          rcases ((wfR_at G.wf hoj).2 i _ ho).2 t rfl ht with ⟨ed, h1, h2, h3⟩ | ⟨ed, h1, h2, h3⟩
          · exact absurd (h3 ▸ G.closed p.1 (G.has p hp) oj hoj ed h1 h2) hi'
          · have hsub : ∀ (n : Nat) (s : List Nat) (x : Nat), x ∈ s → x ∈ clos ops n s := by
              intro n
              induction n with
              | zero => intro s x hx; exact hx
              | succ m ihm =>
                intro s x hx
                refine ihm _ x ?_
                split
                · split
                  · exact List.mem_append.2 (.inr hx)
                  · exact hx
                · exact hx
            have : waits ops aft p.1 = true := by
              simp only [waits, List.contains_iff_mem]
              exact hsub _ _ _ (List.mem_map.2 ⟨ed, List.mem_filter.2 ⟨Array.mem_toList_iff.2 h1, h2⟩, h3⟩)
            simp only at hna
            rw [this] at hna; cases hna
        · have : (t == d) = false := by simpa using hd
          simp [Env.get, List.lookup, this]
  exact this
theorem XDa_dvk {Φ : Value → List HP → Prop} (hv : DV P w0 op ty (restr e (Oper.looksAt ops ⟨some d, op, ty, pos, aft, none⟩)) L Φ) (hdn : d < n := by exact Nat.le_of_ble_eq_true rfl) (D' : Pend) (hD : (D.filter fun p => !waits ops aft p.1) = D' := by rfl) (K : Pend) (hK : (D.filter fun p => !p.2.2 && !waits ops aft p.1) = K := by rfl)
    (hk : ∀ v L', Φ v L' → Keeps ⟨P, w0, n, Q⟩ ops ((d, v) :: e) L' K ∧ XD ⟨P, w0, n, Q⟩ ops k D' (i :: vl) ((d, v) :: e) L') : XDa ⟨P, w0, n, Q⟩ ops k D vl e L i ⟨some d, op, ty, pos, aft, none⟩ :=
  acts_gen (fun _ _ => rfl) hv (fun x hx => by cases hx; exact hdn) (fun v L' h => by subst hD hK; exact hk v L' h)
theorem XDa_dv {Φ : Value → List HP → Prop} (hv : DV P w0 op ty (restr e (Oper.looksAt ops ⟨some d, op, ty, pos, aft, none⟩)) L Φ) (hdn : d < n := by exact Nat.le_of_ble_eq_true rfl) (hK : (D.filter fun p => !p.2.2 && !waits ops aft p.1) = [] := by rfl)
    (hk : ∀ v L', Φ v L' → XD ⟨P, w0, n, Q⟩ ops k (D.filter fun p => !waits ops aft p.1) (i :: vl) ((d, v) :: e) L') : XDa ⟨P, w0, n, Q⟩ ops k D vl e L i ⟨some d, op, ty, pos, aft, none⟩ :=
  acts_gen (fun _ _ => rfl) hv (fun x hx => by cases hx; exact hdn) (fun v L' h => ⟨by rw [hK]; exact keeps_nil, hk v L' h⟩)
theorem XDa_dv0 {Φ : Value → List HP → Prop} (hv : DV P w0 op ty (restr e (Oper.looksAt ops ⟨none, op, ty, pos, aft, none⟩)) L Φ) (hK : (D.filter fun p => !p.2.2 && !waits ops aft p.1) = [] := by rfl)
    (hk : ∀ v L', Φ v L' → XD ⟨P, w0, n, Q⟩ ops k (D.filter fun p => !waits ops aft p.1) (i :: vl) e L') : XDa ⟨P, w0, n, Q⟩ ops k D vl e L i ⟨none, op, ty, pos, aft, none⟩ :=
  acts_gen (fun _ _ => rfl) hv (fun x hx => by cases hx) (fun v L' h => ⟨by rw [hK]; exact keeps_nil, hk v L' h⟩)
theorem XDa_dvk0 {Φ : Value → List HP → Prop} (hv : DV P w0 op ty (restr e (Oper.looksAt ops ⟨none, op, ty, pos, aft, none⟩)) L Φ) (K : Pend) (hK : (D.filter fun p => !p.2.2 && !waits ops aft p.1) = K := by rfl)
    (hk : ∀ v L', Φ v L' → Keeps ⟨P, w0, n, Q⟩ ops e L' K ∧ XD ⟨P, w0, n, Q⟩ ops k (D.filter fun p => !waits ops aft p.1) (i :: vl) e L') : XDa ⟨P, w0, n, Q⟩ ops k D vl e L i ⟨none, op, ty, pos, aft, none⟩ :=
  acts_gen (fun _ _ => rfl) hv (fun x hx => by cases hx) (fun v L' h => by subst hK; exact hk v L' h)
theorem XDa_gT {Φ : Value → List HP → Prop} {j t : Nat} {want : Bool} (hj : (ops[j]?).bind (·.dst) = some t := by rfl) (ht : e.get t = some (.bool want) := by rfl) (hv : DV P w0 op ty (restr e (Oper.looksAt ops ⟨some d, op, ty, pos, aft, some (j, want)⟩)) L Φ) (hdn : d < n := by exact Nat.le_of_ble_eq_true rfl) (K : Pend) (hK : (D.filter fun p => !p.2.2 && !waits ops aft p.1) = K := by rfl)
    (hk : ∀ v L', Φ v L' → Keeps ⟨P, w0, n, Q⟩ ops ((d, v) :: e) L' K ∧ XD ⟨P, w0, n, Q⟩ ops k (D.filter fun p => !waits ops aft p.1) (i :: vl) ((d, v) :: e) L') : XDa ⟨P, w0, n, Q⟩ ops k D vl e L i ⟨some d, op, ty, pos, aft, some (j, want)⟩ :=
  acts_gen (fun _ ha => by rw [wanted_of hj ht ha]; simp) hv (fun x hx => by cases hx; exact hdn) (fun v L' h => by subst hK; exact hk v L' h)
/-- One alone may come up. -/
theorem XD_one {C : Cx} {o : Oper} (hr : readyV ops vl = [i] := by rfl) (ho : ops[i]? = some o := by rfl) (h : XDa C ops k D vl e L i o) : XD C ops k D vl e L := by
  intro G
  have hi : vl.contains i = false := by
    have : i ∈ readyV ops vl := by rw [hr]; exact List.mem_cons_self
    have := (mem_readyV.1 this).1
    simpa using this
  refine XD_act (fun j hj => ?_) (fun h0 => by rw [hr] at h0; cases h0) G
  rw [hr] at hj
  obtain rfl : j = i := by simpa using hj
  exact h G hi ho
/-- Two may come up. -/
theorem XD_two {C : Cx} {j : Nat} {o o' : Oper} (hr : readyV ops vl = [i, j] := by rfl) (ho : ops[i]? = some o := by rfl) (ho' : ops[j]? = some o' := by rfl) (h : XDa C ops k D vl e L i o) (h' : XDa C ops k D vl e L j o') : XD C ops k D vl e L := by
  intro G
  have hc : ∀ x ∈ readyV ops vl, vl.contains x = false := fun x hx => by simpa using (mem_readyV.1 hx).1
  have hi := hc i (by rw [hr]; simp)
  have hj := hc j (by rw [hr]; simp)
  refine XD_act (fun x hx => ?_) (fun h0 => by rw [hr] at h0; cases h0) G
  rw [hr] at hx
  rcases List.mem_cons.1 hx with rfl | hx
  · exact h G hi ho
  · obtain rfl : x = j := by simpa using hx
    exact h' G hj ho'
theorem XD_end {C : Cx} (hr : readyV ops vl = [] := by rfl) (h : XE C k .normal e L) : XD C ops k D vl e L := by
  refine XD_act (fun j hj => ?_) (fun _ => h)
  rw [hr] at hj; cases hj
class Mixed (P : Program) : Prop where
  out : P.follows .mixedOrders = true
theorem X_draws {id : Nat} [hm : Mixed P] (hw : wfR ops = true := by rfl) (h : XD ⟨P, w0, n, Q⟩ ops k [] [] e L) : X ⟨P, w0, n, Q⟩ k (.region id ops true) e L := X_draw hm.out hw h
end
end Go.Proofs.Yteobjankkcdaoaa.Sep
