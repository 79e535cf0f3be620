import Derived.Test.YteobjankkcdaoaaSepA
namespace Go.Proofs.Yteobjankkcdaoaa.Sep
open Go.RowKit

abbrev Env := List (Nat × Value)
def Env.get (e : Env) (t : Nat) : Option Value := List.lookup t e
def ev (e : Env) : Operand → Option Value
  | .tmp t => e.get t
  | .const v => some v
  | .global g => some (.pointer (some ⟨g, 0, none⟩))
  | .func f => some (.func (.func f) #[] #[])
def evl (e : Env) : List Operand → Option (List Value)
  | [] => some []
  | x :: xs => match ev e x with
    | some v => match evl e xs with
      | some vs => some (v :: vs)
      | none => none
    | none => none
def Agree (e : Env) (tm : Array Value) : Prop := ∀ t v, e.get t = some v → tm[t]? = some v
theorem ev_sound {e : Env} {tm : Array Value} {ds : List Deferred} (h : Agree e tm) : ∀ {x : Operand} {v : Value}, ev e x = some v → (Act.mk tm ds).eval x = v := by
  intro x v hx
  cases x with
  | tmp t => have := h t v hx; simp [Act.eval, this]
  | const u => simp [ev] at hx; simp [Act.eval, hx]
  | global g => simp [ev] at hx; simp [Act.eval, hx]
  | func f => simp [ev] at hx; simp [Act.eval, hx]
theorem evl_sound {e : Env} {tm : Array Value} {ds : List Deferred} (h : Agree e tm) : ∀ {xs : List Operand} {vs : List Value}, evl e xs = some vs → xs.map (Act.mk tm ds).eval = vs := by
  intro xs
  induction xs with
  | nil => intro vs hv; simp [evl] at hv; simp [hv]
  | cons x xs ih =>
    intro vs hv
    simp only [evl] at hv
    cases hx : ev e x with
    | none => simp [hx] at hv
    | some v =>
      cases hu : evl e xs with
      | none => simp [hx, hu] at hv
      | some us =>
        simp [hx, hu] at hv
        subst hv
        simp [ev_sound h hx, ih hu]
theorem Agree.put {e : Env} {tm : Array Value} (h : Agree e tm) {d : Nat} {v : Value} (hd : d < tm.size) : Agree ((d, v) :: e) (tm.setIfInBounds d v) := by
  intro t u hu
  simp only [Env.get, List.lookup] at hu
  by_cases e1 : t = d
  · subst e1
    simp at hu
    subst hu
    simp [hd]
  · have : (t == d) = false := by simpa using e1
    rw [this] at hu
    have := h t u hu
    rw [Array.getElem?_setIfInBounds_ne (by omega)]
    exact this
/-- One environment knows less than another. -/
def Env.sub (e e' : Env) : Prop := ∀ t v, e.get t = some v → e'.get t = some v
theorem Env.sub_nil (e : Env) : Env.sub [] e := fun t v h => by simp [Env.get] at h
theorem Env.sub_cons {e e' : Env} {t : Nat} {v : Value} (h : e'.get t = some v) (hs : Env.sub e e') : Env.sub ((t, v) :: e) e' := by
  intro s u hu
  simp only [Env.get, List.lookup] at hu
  by_cases e1 : s = t
  · subst e1; simp at hu; subst hu; exact h
  · have : (s == t) = false := by simpa using e1
    rw [this] at hu
    exact hs s u hu
theorem Agree.sub {e e' : Env} {tm : Array Value} (h : Agree e' tm) (hs : Env.sub e e') : Agree e tm := fun t v ht => h t v (hs t v ht)

inductive KI where
  | code (c : Code)
  | block (id : Nat)
  | pred (R : Act → World → Prop)
structure Cx where
  P : Program
  w0 : World
  n : Nat
  Q : Exit → Act → World → Prop
def kq (C : Cx) : List KI → Exit → Act → World → Prop
  | [] => C.Q
  | .code c :: k => Exit.then (fun a w => c.wp C.P (kq C k) a w) (kq C k)
  | .block id :: k => Exit.inBlock id (kq C k)
  | .pred R :: k => Exit.then R (kq C k)
def X (C : Cx) (k : List KI) (c : Code) (e : Env) (L : List HP) : Prop :=
  ∀ tm w, tm.size = C.n → Agree e tm → Sat C.w0 w L → c.wp C.P (kq C k) ⟨tm, []⟩ w
def XE (C : Cx) (k : List KI) (x : Exit) (e : Env) (L : List HP) : Prop :=
  ∀ tm w, tm.size = C.n → Agree e tm → Sat C.w0 w L → kq C k x ⟨tm, []⟩ w
def XO (C : Cx) (all : Array Oper) (k : List KI) (ops : List Oper) (e : Env) (L : List HP) : Prop :=
  ∀ tm w, tm.size = C.n → Agree e tm → Sat C.w0 w L → wpList C.P all (kq C k) ops ⟨tm, []⟩ w

section
variable {C : Cx} {k : List KI} {e : Env} {L : List HP}
theorem X_seq {a b : Code} (h : X C (.code b :: k) a e L) : X C k (.seq a b) e L := fun tm w h1 h2 h3 => wp_seq (h tm w h1 h2 h3)
theorem X_skip (h : XE C k .normal e L) : X C k .skip e L := fun tm w h1 h2 h3 => wp_skip (h tm w h1 h2 h3)
theorem X_label {l : Nat} (h : XE C k .normal e L) : X C k (.label l) e L := fun tm w h1 h2 h3 => wp_label (h tm w h1 h2 h3)
theorem X_exit {id : Nat} (h : XE C k (.exit id) e L) : X C k (.exit id) e L := fun tm w h1 h2 h3 => wp_exit (h tm w h1 h2 h3)
theorem X_ret (h : XE C k .ret e L) : X C k .ret e L := fun tm w h1 h2 h3 => wp_ret (h tm w h1 h2 h3)
theorem X_block {id : Nat} {c : Code} (h : X C (.block id :: k) c e L) : X C k (.block id c) e L := fun tm w h1 h2 h3 => wp_block (h tm w h1 h2 h3)
theorem X_cond {c : Operand} {a b : Code} {t : Bool} (hc : ev e c = some (.bool t)) (ht : t = true → X C k a e L) (hf : t = false → X C k b e L) : X C k (.cond c a b) e L :=
  fun tm w h1 h2 h3 => wp_cond_split (ev_sound h2 hc) (fun h => ht h tm w h1 h2 h3) (fun h => hf h tm w h1 h2 h3)
theorem XE_code {c : Code} (h : X C k c e L) : XE C (.code c :: k) .normal e L := h
theorem XE_code_exit {c : Code} {id : Nat} (h : XE C k (.exit id) e L) : XE C (.code c :: k) (.exit id) e L := h
theorem XE_code_ret {c : Code} (h : XE C k .ret e L) : XE C (.code c :: k) .ret e L := h
theorem XE_block {id : Nat} (h : XE C k .normal e L) : XE C (.block id :: k) .normal e L := h
theorem XE_block_ret {id : Nat} (h : XE C k .ret e L) : XE C (.block id :: k) .ret e L := h
theorem XE_block_exit {id : Nat} (h : XE C k .normal e L) : XE C (.block id :: k) (.exit id) e L := fun tm w h1 h2 h3 => by
  show (if id = id then kq C k .normal _ _ else _); rw [if_pos rfl]; exact h tm w h1 h2 h3
theorem XE_block_other {id id' : Nat} (hne : (id' == id) = false) (h : XE C k (.exit id') e L) : XE C (.block id :: k) (.exit id') e L := fun tm w h1 h2 h3 => by
  show (if id' = id then _ else kq C k (.exit id') _ _); rw [if_neg (by simpa using hne)]; exact h tm w h1 h2 h3
theorem XE_pred_exit {R : Act → World → Prop} {id : Nat} (h : XE C k (.exit id) e L) : XE C (.pred R :: k) (.exit id) e L := h
theorem XE_pred_ret {R : Act → World → Prop} (h : XE C k .ret e L) : XE C (.pred R :: k) .ret e L := h
theorem XE_pred {R : Act → World → Prop} (h : ∀ tm w, tm.size = C.n → Agree e tm → Sat C.w0 w L → R ⟨tm, []⟩ w) : XE C (.pred R :: k) .normal e L := h
theorem X_region {id : Nat} {ops : Array Oper} (h : XO C ops k ops.toList e L) : X C k (.region id ops false) e L :=
  fun tm w h1 h2 h3 => wp_region_list (h tm w h1 h2 h3)
theorem XO_nil {all : Array Oper} (h : XE C k .normal e L) : XO C all k [] e L := fun tm w h1 h2 h3 => wpList_nil (h tm w h1 h2 h3)

/-- The invariant of a loop: slots, and assertions, by a state. -/
theorem X_loop {c : Code} {ι : Type} (I : ι → Prop) (E : ι → Env) (S : ι → List HP) (μ : ι → Nat) (i0 : ι) (hI : I i0) (he : Env.sub (E i0) e) (hL : ∀ H, SL L H → SL (S i0) H)
    (round : ∀ i, I i → X C (.pred (fun a w => ∃ i', I i' ∧ μ i' < μ i ∧ Agree (E i') a.tmps ∧ a.tmps.size = C.n ∧ a.defers = [] ∧ Sat C.w0 w (S i')) :: k) c (E i) (S i)) : X C k (.loop c) e L := by
  intro tm w h1 h2 h3
  classical
  let J : Act → World → ι → Prop := fun a w i => I i ∧ Agree (E i) a.tmps ∧ a.tmps.size = C.n ∧ a.defers = [] ∧ Sat C.w0 w (S i)
  let m : Act → World → Nat := fun a w => if h : ∃ i, J a w i then (Classical.choose (p := fun n => (∃ i, J a w i ∧ μ i = n) ∧ ∀ i, J a w i → n ≤ μ i) (by
    obtain ⟨i, hi⟩ := h
    have key : ∀ n, (∃ i, J a w i ∧ μ i ≤ n) → ∃ n, (∃ i, J a w i ∧ μ i = n) ∧ ∀ i, J a w i → n ≤ μ i := by
      intro n
      induction n with
      | zero => rintro ⟨i, hi, h0⟩; exact ⟨0, ⟨i, hi, by omega⟩, fun _ _ => Nat.zero_le _⟩
      | succ n ih =>
        rintro ⟨i, hi, h0⟩
        by_cases hx : ∃ i, J a w i ∧ μ i ≤ n
        · exact ih hx
        · refine ⟨n + 1, ⟨i, hi, ?_⟩, fun j hj => ?_⟩
          · rcases Nat.lt_or_ge (μ i) (n + 1) with h | h
            · exact absurd ⟨i, hi, by omega⟩ hx
            · omega
          · rcases Nat.lt_or_ge (μ j) (n + 1) with h | h
            · exact absurd ⟨j, hj, by omega⟩ hx
            · exact h
    exact key (μ i) ⟨i, hi, Nat.le_refl _⟩)) else 0
  have mspec : ∀ a w, (∃ i, J a w i) → (∃ i, J a w i ∧ μ i = m a w) ∧ ∀ i, J a w i → m a w ≤ μ i := by
    intro a w h
    simp only [m, dif_pos h]
    exact Classical.choose_spec (p := fun n => (∃ i, J a w i ∧ μ i = n) ∧ ∀ i, J a w i → n ≤ μ i) _
  refine wp_loop (fun a w => ∃ i, J a w i) m ⟨i0, hI, h2.sub he, h1, rfl, h3.map hL⟩ ?_
  intro a w hJ
  obtain ⟨i, ⟨hi, hag, hsz, hdf, hsat⟩, hm⟩ := (mspec a w hJ).1
  obtain ⟨tms, dfs⟩ := a
  simp only at hdf hsz hag
  subst hdf
  refine wp_mono (round i hi tms w hsz hag hsat) ?_
  intro x a' w' hq
  cases x with
  | normal =>
    obtain ⟨i', hi', hlt, hag', hsz', hdf', hsat'⟩ := hq
    have hJ' : ∃ i, J a' w' i := ⟨i', hi', hag', hsz', hdf', hsat'⟩
    refine ⟨hJ', ?_⟩
    have := (mspec a' w' hJ').2 i' ⟨hi', hag', hsz', hdf', hsat'⟩
    omega
  | _ => exact hq
theorem X_round {k' : List KI} {ι : Type} {I : ι → Prop} {E : ι → Env} {S : ι → List HP} {μ : ι → Nat} {m : Nat} (i' : ι) (hI : I i') (hm : μ i' < m) (he : Env.sub (E i') e) (hL : ∀ H, SL L H → SL (S i') H) :
    XE C (.pred (fun a w => ∃ i', I i' ∧ μ i' < m ∧ Agree (E i') a.tmps ∧ a.tmps.size = C.n ∧ a.defers = [] ∧ Sat C.w0 w (S i')) :: k') .normal e L :=
  fun _ _ h1 h2 h3 => ⟨i', hI, hm, h2.sub he, h1, rfl, h3.map hL⟩
/-- Two ways meet: what holds where they meet. Each way ends by X_meet. -/
theorem X_join {c rest : Code} {ι : Type} (I : ι → Prop) (E : ι → Env) (S : ι → List HP) (h1 : X C (.pred (fun a w => ∃ i, I i ∧ Agree (E i) a.tmps ∧ a.tmps.size = C.n ∧ a.defers = [] ∧ Sat C.w0 w (S i)) :: k) c e L) (h2 : ∀ i, I i → X C k rest (E i) (S i)) : X C (.code rest :: k) c e L := by
  intro tm w hn ha hs
  refine wp_mono (h1 tm w hn ha hs) ?_
  intro x a' w' hq
  cases x with
  | normal =>
    obtain ⟨i, hi, hag, hsz, hdf, hsat⟩ := hq
    obtain ⟨tms, dfs⟩ := a'
    simp only at hdf hsz hag
    subst hdf
    exact h2 i hi tms w' hsz hag hsat
  | _ => exact hq
theorem X_meet {k' : List KI} {ι : Type} {I : ι → Prop} {E : ι → Env} {S : ι → List HP} (i : ι) (hI : I i) (he : Env.sub (E i) e) (hL : ∀ H, SL L H → SL (S i) H) :
    XE C (.pred (fun a w => ∃ i, I i ∧ Agree (E i) a.tmps ∧ a.tmps.size = C.n ∧ a.defers = [] ∧ Sat C.w0 w (S i)) :: k') .normal e L :=
  fun _ _ h1 h2 h3 => ⟨i, hI, h2.sub he, h1, rfl, h3.map hL⟩
/-- An assertion is changed to what it says. -/
theorem X_conv {c : Code} {L' : List HP} (hL : ∀ H, SL L H → SL L' H) (h : X C k c e L') : X C k c e L := fun tm w h1 h2 h3 => h tm w h1 h2 (h3.map hL)
theorem XO_conv {all : Array Oper} {ops : List Oper} {L' : List HP} (hL : ∀ H, SL L H → SL L' H) (h : XO C all k ops e L') : XO C all k ops e L := fun tm w h1 h2 h3 => h tm w h1 h2 (h3.map hL)
theorem XE_conv {x : Exit} {L' : List HP} (hL : ∀ H, SL L H → SL L' H) (h : XE C k x e L') : XE C k x e L := fun tm w h1 h2 h3 => h tm w h1 h2 (h3.map hL)

/-! ### one operation -/
def Runs (C : Cx) (o : Op) (ty : TypeId) (e : Env) (L : List HP) (Φ : Value → List HP → Prop) : Prop :=
  ∀ tm w pos aft, tm.size = C.n → Agree e tm → Sat C.w0 w L → ∃ v w' L', (execOp (Act.mk tm []).eval ⟨none, o, ty, pos, aft, none⟩).run C.P w = .ok (.value v) w' ∧ Φ v L' ∧ Sat C.w0 w' L'
def RunsU (C : Cx) (o : Op) (ty : TypeId) (e : Env) (L : List HP) (Φ : List HP → Prop) : Prop :=
  ∀ tm w pos aft, tm.size = C.n → Agree e tm → Sat C.w0 w L → ∃ w' L', (execOp (Act.mk tm []).eval ⟨none, o, ty, pos, aft, none⟩).run C.P w = .ok .skip w' ∧ Φ L' ∧ Sat C.w0 w' L'
theorem execOp_dst (ρ : Operand → Value) (d : Option Tmp) (o : Op) (ty : TypeId) (pos : String) (aft : Array Edge) (g : Option (Nat × Bool)) :
    execOp ρ ⟨d, o, ty, pos, aft, g⟩ = execOp ρ ⟨none, o, ty, pos, aft, none⟩ := rfl
variable {all : Array Oper} {rest : List Oper} {op : Op} {ty : TypeId} {pos : String} {aft : Array Edge}
theorem XO_runs {d : Nat} {Φ : Value → List HP → Prop} (hr : Runs C op ty e L Φ) (hd : d < C.n) (h : ∀ v L', Φ v L' → XO C all k rest ((d, v) :: e) L') :
    XO C all k (⟨some d, op, ty, pos, aft, none⟩ :: rest) e L := by
  intro tm w h1 h2 h3
  unfold wpList
  rw [if_pos (show Region.wanted _ _ = true from rfl)]
  left
  obtain ⟨v, w', L', hrun, hΦ, hs⟩ := hr tm w pos aft h1 h2 h3
  unfold Oper.wp
  rw [execOp_dst, hrun, Oper.upon_value]
  exact h v L' hΦ _ w' (by simp [h1]) (h2.put (by rw [h1]; exact hd)) hs
theorem XO_runs_none {Φ : Value → List HP → Prop} (hr : Runs C op ty e L Φ) (h : ∀ v L', Φ v L' → XO C all k rest e L') :
    XO C all k (⟨none, op, ty, pos, aft, none⟩ :: rest) e L := by
  intro tm w h1 h2 h3
  unfold wpList
  rw [if_pos (show Region.wanted _ _ = true from rfl)]
  left
  obtain ⟨v, w', L', hrun, hΦ, hs⟩ := hr tm w pos aft h1 h2 h3
  unfold Oper.wp
  rw [hrun, Oper.upon_value]
  exact h v L' hΦ _ w' h1 h2 hs
theorem XO_runsU {Φ : List HP → Prop} (hr : RunsU C op ty e L Φ) (h : ∀ L', Φ L' → XO C all k rest e L') :
    XO C all k (⟨none, op, ty, pos, aft, none⟩ :: rest) e L := by
  intro tm w h1 h2 h3
  unfold wpList
  rw [if_pos (show Region.wanted _ _ = true from rfl)]
  left
  obtain ⟨w', L', hrun, hΦ, hs⟩ := hr tm w pos aft h1 h2 h3
  unfold Oper.wp
  rw [hrun, Oper.upon_skip]
  exact h L' hΦ _ w' h1 h2 hs
theorem yielded_of {tm : Array Value} {j t : Nat} {b : Bool} (hj : (all[j]?).bind (·.dst) = some t) (ht : tm[t]? = some (.bool b)) : yielded all tm j = some b := by
  unfold yielded; rw [hj]; simp [ht]
theorem XO_guard {d : Option Nat} {j t : Nat} {want b : Bool} (hj : (all[j]?).bind (·.dst) = some t) (ht : e.get t = some (.bool b)) (hd : ∀ x, d = some x → x < C.n)
    (hy : b = want → XO C all k (⟨d, op, ty, pos, aft, none⟩ :: rest) e L) (hn : b = !want → XO C all k rest (match d with | some x => (x, undef) :: e | none => e) L) :
    XO C all k (⟨d, op, ty, pos, aft, some (j, want)⟩ :: rest) e L := by
  intro tm w h1 h2 h3
  have hyi := yielded_of (all := all) hj (h2 t _ ht)
  by_cases hb : b = want
  · have := hy hb tm w h1 h2 h3
    unfold wpList at this ⊢
    rw [if_pos (show Region.wanted _ _ = true from rfl)] at this
    rw [if_pos (show Region.wanted _ _ = true by simp [Region.wanted, hyi, hb])]
    exact this
  · have hb' : b = !want := by cases b <;> cases want <;> simp_all
    unfold wpList
    rw [if_neg (show ¬ Region.wanted _ _ = true by simp [Region.wanted, hyi, hb])]
    cases d with
    | none => exact hn hb' tm w h1 h2 h3
    | some x => exact hn hb' _ w (by simp [h1]) (h2.put (by rw [h1]; exact hd x rfl)) h3
end

theorem ent_refl {L : List HP} : ∀ H, SL L H → SL L H := fun _ h => h
theorem ent_take {L R L' : List HP} {A : HP} (hf : Find L A R) (h : ∀ H, SL R H → SL L' H) : ∀ H, SL L H → SL (A :: L') H := fun _ hh => SL.cons h (hf.fwd hh)
theorem ent_drop {R L' : List HP} {A : HP} (h : ∀ H, SL R H → SL L' H) : ∀ H, SL (A :: R) H → SL L' H := fun H hh => by
  obtain ⟨H2, h2, hs⟩ := SL.drop hh
  exact SL.weaken hs (h H2 h2)

/-- What is asserted is found in what an assertion says. -/
theorem ent_fold {L S R L' : List HP} {A : HP} (hf : FindAll L S R) (hc : ∀ H, SL S H → A H) (h : ∀ H, SL R H → SL L' H) : ∀ H, SL L H → SL (A :: L') H := fun H hh => by
  obtain ⟨H1, H2, d, u, h1, h2⟩ := SL.split (hf.fwd hh)
  exact ⟨H1, H2, d, u, hc _ h1, h _ h2⟩
/-- An assertion is opened. -/
theorem Sat.openA {w0 w : World} {A : HP} {R : List HP} {ι : Type} {φ : ι → Prop} {S : ι → List HP} (h : Sat w0 w (A :: R)) (ho : ∀ H, A H → ∃ x, φ x ∧ SL (S x) H) : ∃ x, φ x ∧ Sat w0 w (S x ++ R) := by
  obtain ⟨H, hle, H1, H2, d, u, hA, hR⟩ := h.mem
  obtain ⟨x, hx, hS⟩ := ho H1 hA
  exact ⟨x, hx, h.os, h.tape, h.output, H, hle, SL.join d u hS hR⟩
section
variable {C : Cx} {k : List KI} {e : Env} {L R : List HP} {A : HP} {ι : Type} {φ : ι → Prop} {S : ι → List HP}
theorem XO_open {all : Array Oper} {ops : List Oper} (hf : Find L A R) (ho : ∀ H, A H → ∃ x, φ x ∧ SL (S x) H) (h : ∀ x, φ x → XO C all k ops e (S x ++ R)) : XO C all k ops e L := fun tm w h1 h2 h3 => by
  obtain ⟨x, hx, hs⟩ := (h3.find hf).openA ho
  exact h x hx tm w h1 h2 hs
theorem X_open {c : Code} (hf : Find L A R) (ho : ∀ H, A H → ∃ x, φ x ∧ SL (S x) H) (h : ∀ x, φ x → X C k c e (S x ++ R)) : X C k c e L := fun tm w h1 h2 h3 => by
  obtain ⟨x, hx, hs⟩ := (h3.find hf).openA ho
  exact h x hx tm w h1 h2 hs
theorem X_fact {c : Code} {p : Prop} (hf : Find L A R) (hp : ∀ H, A H → p) (h : p → X C k c e L) : X C k c e L := fun tm w h1 h2 h3 => by
  obtain ⟨H, hA, _⟩ := (h3.find hf).atom
  exact h (hp H hA) tm w h1 h2 h3
theorem XO_fact {all : Array Oper} {ops : List Oper} {p : Prop} (hf : Find L A R) (hp : ∀ H, A H → p) (h : p → XO C all k ops e L) : XO C all k ops e L := fun tm w h1 h2 h3 => by
  obtain ⟨H, hA, _⟩ := (h3.find hf).atom
  exact h (hp H hA) tm w h1 h2 h3
theorem XE_open {x : Exit} (hf : Find L A R) (ho : ∀ H, A H → ∃ x, φ x ∧ SL (S x) H) (h : ∀ y, φ y → XE C k x e (S y ++ R)) : XE C k x e L := fun tm w h1 h2 h3 => by
  obtain ⟨y, hy, hs⟩ := (h3.find hf).openA ho
  exact h y hy tm w h1 h2 hs
end

/-! ### functions -/
def Enters (P : Program) (f : FuncId) : Prop := ∀ args w, (callFunc f args).run P w = .ok (.enter f args) w
/-- Called where 'pre' holds the function returns, and 'post' holds. -/
def Spec (P : Program) (f : FuncId) (args : List Value) (pre : List HP) (post : Value → List HP → Prop) : Prop :=
  Enters P f ∧ ∀ w0 w F, Sat w0 w (pre ++ F) → Calls P f args.toArray w fun e w' => ∃ v L', e = .returned v ∧ post v L' ∧ Sat w0 w' (L' ++ F)
theorem Spec.mono {P : Program} {f : FuncId} {args : List Value} {pre : List HP} {post post' : Value → List HP → Prop} (h : Spec P f args pre post) (hp : ∀ v L, post v L → post' v L) : Spec P f args pre post' :=
  ⟨h.1, fun w0 w F hs => (h.2 w0 w F hs).mono fun _ _ ⟨v, L', he, hq, hs'⟩ => ⟨v, L', he, hp _ _ hq, hs'⟩⟩
def envOf (args : List Value) : Env := args.zipIdx.map fun (v, i) => (i, v)
theorem agree_envOf (args : List Value) (n : Nat) : Agree (envOf args) (args.toArray ++ Array.replicate n undef) := by
  have key : ∀ (l : List Value) (s t : Nat) (v : Value), List.lookup t ((l.zipIdx s).map fun (v, i) => (i, v)) = some v → ∃ i, t = s + i ∧ l[i]? = some v := by
    intro l
    induction l with
    | nil => intro s t v h; simp at h
    | cons x l ih =>
      intro s t v h
      simp only [List.zipIdx_cons, List.map_cons, List.lookup] at h
      by_cases e : t = s
      · subst e; simp at h; exact ⟨0, rfl, by simp [h]⟩
      · have : (t == s) = false := by simpa using e
        rw [this] at h
        obtain ⟨i, hi, hv⟩ := ih (s + 1) t v h
        exact ⟨i + 1, by omega, by simpa using hv⟩
  intro t v h
  obtain ⟨i, hi, hv⟩ := key args 0 t v h
  have : i < args.length := (List.getElem?_eq_some_iff.1 hv).1
  obtain rfl : t = i := by omega
  rw [Array.getElem?_append_left (by simpa using this)]
  simpa using hv
/-- What a function answers, off its slots. -/
def rvs (e : Env) : List ResultVar → Option (List Value)
  | [] => some []
  | .tmp t :: l => (e.get t).bind fun v => (rvs e l).map (v :: ·)
  | .cell _ _ :: _ => none
def tup : List Value → Value
  | [v] => v
  | l => .tuple l.toArray
def Post (P : Program) (fn : Func) (w0 : World) (F : List HP) (post : Value → List HP → Prop) : Exit → Act → World → Prop :=
  bodyPost P fn fun e w' => ∃ v L', e = .returned v ∧ post v L' ∧ Sat w0 w' (L' ++ F)
theorem Spec.intro {P : Program} {f : FuncId} {fn : Func} {c : Code} {args : List Value} {pre : List HP} {post : Value → List HP → Prop} {n : Nat}
    (he : Enters P f) (hf : P.funcs[f]? = some fn) (hb : fn.body = some c) (hn : fn.ntmps = n) (hle : args.length ≤ n)
    (h : ∀ w0 F, X ⟨P, w0, n, Post P fn w0 F post⟩ [] c (envOf args) (pre ++ F)) : Spec P f args pre post := by
  refine ⟨he, fun w0 w F hs => calls_of_wp hf hb ?_⟩
  have := h w0 F (args.toArray ++ Array.replicate (fn.ntmps - args.toArray.size) undef) w (by simp [hn]; omega) (agree_envOf _ _) hs
  exact this
theorem run_mapM_tmps {P : Program} {w : World} {tm : Array Value} {e : Env} (h : Agree e tm) : ∀ {l : List ResultVar} {vs : List Value}, rvs e l = some vs →
    (l.mapM (m := Sem) fun | .tmp t => pure (tm.getD t undef) | .cell a t => do loadVar t (← asAddr (tm.getD a undef))).run P w = .ok vs w := by
  intro l
  induction l with
  | nil => intro vs hv; simp [rvs] at hv; subst hv; rfl
  | cons x l ih =>
    intro vs hv
    cases x with
    | cell a t => simp [rvs] at hv
    | tmp t =>
      simp only [rvs, Option.bind_eq_some_iff, Option.map_eq_some_iff] at hv
      obtain ⟨v, hx, us, hu, rfl⟩ := hv
      have h1 := h t v hx
      have h2 := ih hu
      simp only [List.mapM_cons, Sem.run_bind, Sem.run_pure, Result.andThen_ok, h2]
      simp [h1]
/-- The answer is told. -/
def Tells (C : Cx) (fn : Func) (e : Env) (L : List HP) (v : Value) : Prop := ∀ tm w, tm.size = C.n → Agree e tm → Sat C.w0 w L → (results fn tm).run C.P w = .ok v w
theorem tells_tmps {C : Cx} {fn : Func} {e : Env} {L : List HP} {rs : List ResultVar} {vs : List Value} (hr : fn.results = rs.toArray) (hv : rvs e rs = some vs) : Tells C fn e L (tup vs) := by
  intro tm w _ h2 _
  have := run_mapM_tmps (P := C.P) (w := w) h2 hv
  unfold results
  rw [hr, List.mapM_toArray]
  simp only [Sem.run_bind, Sem.run_map, Sem.run_pure]
  refine (congrArg (fun r : Result (List Value) => (r.andThen fun a w' => Result.ok a.toArray w').andThen fun a w' => Result.ok (if h : a.size = 1 then a[0] else Value.tuple a) w') this).trans ?_
  show Result.ok (if h : vs.toArray.size = 1 then vs.toArray[0] else Value.tuple vs.toArray) w = _
  congr 1
  unfold tup
  match vs with
  | [] => rfl
  | [v] => rfl
  | v :: u :: l => simp
theorem XE_ret {P : Program} {fn : Func} {w0 : World} {n : Nat} {F : List HP} {post : Value → List HP → Prop} {e : Env} {L : List HP} {v : Value} {x : Exit} (hx : x = .ret ∨ x = .normal)
    (hv : Tells ⟨P, w0, n, Post P fn w0 F post⟩ fn e L v) (h : ∃ L', post v L' ∧ ∀ H, SL L H → SL (L' ++ F) H) : XE ⟨P, w0, n, Post P fn w0 F post⟩ [] x e L := by
  obtain ⟨L', hp, hL⟩ := h
  intro tm w h1 h2 h3
  have fin : ([] : List Deferred) = [] ∧ ∃ v, (results fn tm).run P w = .ok v w ∧ ∃ v' L', Ending.returned v = .returned v' ∧ post v' L' ∧ Sat w0 w (L' ++ F) :=
    ⟨rfl, v, hv tm w h1 h2 h3, v, L', rfl, hp, h3.map hL⟩
  rcases hx with rfl | rfl <;> exact fin
def isTrue : Value → List HP → Prop := fun v L => v = .bool true ∧ L = []
/-- A law: it answers true, and what was there stays. -/
theorem law_intro {P : Program} {f : FuncId} {fn : Func} {c : Code} {args : List Value} {n : Nat} {W : World} (hf : P.funcs[f]? = some fn) (hb : fn.body = some c) (hn : fn.ntmps = n) (hle : args.length ≤ n)
    (h : X ⟨P, W, n, Post P fn W [base W] isTrue⟩ [] c (envOf args) [base W]) : Calls P f args.toArray W fun e w' => e = .returned (.bool true) ∧ Below W.heap.size W w' := by
  refine (calls_of_wp (R := fun e w' => ∃ v L', e = .returned v ∧ isTrue v L' ∧ Sat W w' (L' ++ [base W])) hf hb ?_).mono ?_
  · have := h (args.toArray ++ Array.replicate (fn.ntmps - args.toArray.size) undef) W (by simp [hn]; omega) (agree_envOf _ _) (Sat.start W)
    exact this
  · rintro e w' ⟨v, L', rfl, ⟨rfl, rfl⟩, hs⟩
    exact ⟨rfl, hs.below⟩
theorem Spec.law {P : Program} {f : FuncId} {args : List Value} (h : Spec P f args [] isTrue) (W : World) : Calls P f args.toArray W fun e w' => e = .returned (.bool true) ∧ Below W.heap.size W w' := by
  refine (h.2 W W [base W] (Sat.start W)).mono ?_
  rintro e w' ⟨v, L', rfl, ⟨rfl, rfl⟩, hs⟩
  exact ⟨rfl, hs.below⟩
end Go.Proofs.Yteobjankkcdaoaa.Sep
