import Derived.StillTail
import Derived.Below
import Derived.Laws.Append
import Derived.Laws.Rows
import Derived.KernelRfl
import Derived.Deep.AppendSrc
import Derived.Laws.CopyRow
/- What the laws share: a separation logic over the model, and what the program's functions do, by it. Part 1 of 15: SepA SepB SepC SepD SepE. -/
namespace Go.Proofs.YtamecmklcnohjaaGreat.Sep
open Go.RowKit

abbrev PH := Nat → Option Obj
abbrev HP := PH → Prop
def SL : List HP → HP
  | [] => fun _ => True
  | A :: L => fun H => ∃ H1 H2, (∀ b, H1 b = none ∨ H2 b = none) ∧ (∀ b, H b = (H1 b).or (H2 b)) ∧ A H1 ∧ SL L H2
def PH.le (H : PH) (w : World) : Prop := ∀ b o, H b = some o → w.heap[b]? = some o
structure Sat (w0 w : World) (L : List HP) : Prop where
  os : w.os = w0.os
  tape : w.tape = w0.tape
  output : w.output = w0.output
  mem : ∃ H, PH.le H w ∧ SL L H

inductive Find : List HP → HP → List HP → Prop
  | here {A : HP} {L : List HP} : Find (A :: L) A L
  | there {A B : HP} {L R : List HP} : Find L A R → Find (B :: L) A (B :: R)
inductive FindAll : List HP → List HP → List HP → Prop
  | nil {L : List HP} : FindAll L [] L
  | cons {A : HP} {L As L1 R : List HP} : Find L A L1 → FindAll L1 As R → FindAll L (A :: As) R

theorem SL.swap {A B : HP} {L : List HP} {H : PH} (h : SL (A :: B :: L) H) : SL (B :: A :: L) H := by
  obtain ⟨H1, H2, d, u, hA, H3, H4, d', u', hB, hL⟩ := h
  refine ⟨H3, fun b => (H1 b).or (H4 b), fun b => ?_, fun b => ?_, hB, H1, H4, fun b => ?_, fun b => rfl, hA, hL⟩
  · have := d b; have := d' b; have := u' b
    cases h1 : H1 b <;> cases h3 : H3 b <;> cases h4 : H4 b <;> simp_all
  · rw [u b, u' b]
    have := d b; have := d' b; have := u' b
    cases h1 : H1 b <;> cases h3 : H3 b <;> cases h4 : H4 b <;> simp_all
  · have := d b; have := u' b
    cases h1 : H1 b <;> cases h3 : H3 b <;> cases h4 : H4 b <;> simp_all
theorem SL.cons {A : HP} {L L' : List HP} (h : ∀ H, SL L H → SL L' H) {H : PH} (hh : SL (A :: L) H) : SL (A :: L') H := by
  obtain ⟨H1, H2, d, u, hA, hL⟩ := hh
  exact ⟨H1, H2, d, u, hA, h _ hL⟩
theorem SL.head {A B : HP} {L : List HP} (h : ∀ H, A H → B H) {H : PH} (hh : SL (A :: L) H) : SL (B :: L) H := by
  obtain ⟨H1, H2, d, u, hA, hL⟩ := hh
  exact ⟨H1, H2, d, u, h _ hA, hL⟩
theorem Find.fwd {L R : List HP} {A : HP} (h : Find L A R) : ∀ {H : PH}, SL L H → SL (A :: R) H := by
  induction h with
  | here => exact fun h => h
  | there _ ih => exact fun h => SL.swap (SL.cons (fun _ => ih) h)
theorem Find.bwd {L R : List HP} {A : HP} (h : Find L A R) : ∀ {H : PH}, SL (A :: R) H → SL L H := by
  induction h with
  | here => exact fun h => h
  | there _ ih => exact fun h => SL.cons (fun _ => ih) (SL.swap h)
theorem FindAll.fwd {L As R : List HP} (h : FindAll L As R) : ∀ {H : PH}, SL L H → SL (As ++ R) H := by
  induction h with
  | nil => exact fun h => h
  | cons hf _ ih => exact fun h => SL.cons (fun _ => ih) (hf.fwd h)
theorem SL.le_self {A : HP} {L : List HP} {H : PH} (h : SL (A :: L) H) : ∃ H1, A H1 ∧ ∀ b o, H1 b = some o → H b = some o := by
  obtain ⟨H1, H2, d, u, hA, _⟩ := h
  exact ⟨H1, hA, fun b o hb => by rw [u b, hb]; rfl⟩
theorem SL.drop {A : HP} {L : List HP} {H : PH} (h : SL (A :: L) H) : ∃ H2, SL L H2 ∧ ∀ b o, H2 b = some o → H b = some o := by
  obtain ⟨H1, H2, d, u, _, hL⟩ := h
  refine ⟨H2, hL, fun b o hb => ?_⟩
  rw [u b, hb]
  rcases d b with h | h
  · rw [h]; rfl
  · rw [hb] at h; cases h
theorem Sat.drop {w0 w : World} {A : HP} {L : List HP} (h : Sat w0 w (A :: L)) : Sat w0 w L := by
  obtain ⟨H, hle, hs⟩ := h.mem
  obtain ⟨H2, h2, hsub⟩ := hs.drop
  exact ⟨h.os, h.tape, h.output, H2, fun b o hb => hle b o (hsub b o hb), h2⟩
theorem Sat.map {w0 w : World} {L L' : List HP} (h : Sat w0 w L) (hm : ∀ H, SL L H → SL L' H) : Sat w0 w L' := by
  obtain ⟨H, hle, hs⟩ := h.mem
  exact ⟨h.os, h.tape, h.output, H, hle, hm _ hs⟩
theorem Sat.find {w0 w : World} {L R : List HP} {A : HP} (h : Sat w0 w L) (hf : Find L A R) : Sat w0 w (A :: R) := h.map fun _ => hf.fwd
theorem Sat.findAll {w0 w : World} {L R As : List HP} (h : Sat w0 w L) (hf : FindAll L As R) : Sat w0 w (As ++ R) := h.map fun _ => hf.fwd
theorem SL.split {A : List HP} : ∀ {L : List HP} {H : PH}, SL (A ++ L) H → ∃ H1 H2, (∀ b, H1 b = none ∨ H2 b = none) ∧ (∀ b, H b = (H1 b).or (H2 b)) ∧ SL A H1 ∧ SL L H2 := by
  induction A with
  | nil => intro L H h; exact ⟨fun _ => none, H, fun _ => .inl rfl, fun _ => by simp, trivial, h⟩
  | cons B A ih =>
    intro L H h
    obtain ⟨H1, H2, d, u, hB, hr⟩ := h
    obtain ⟨H3, H4, d', u', hA, hL⟩ := ih hr
    refine ⟨fun b => (H1 b).or (H3 b), H4, fun b => ?_, fun b => ?_, ⟨H1, H3, fun b => ?_, fun b => rfl, hB, hA⟩, hL⟩
    · have := d b; have := d' b; have := u' b
      cases h1 : H1 b <;> cases h3 : H3 b <;> cases h4 : H4 b <;> simp_all
    · rw [u b, u' b]
      cases h1 : H1 b <;> cases h3 : H3 b <;> simp_all
    · have := d b; have := u' b
      cases h1 : H1 b <;> cases h3 : H3 b <;> cases h4 : H4 b <;> simp_all
theorem SL.join {A : List HP} : ∀ {L : List HP} {H H1 H2 : PH}, (∀ b, H1 b = none ∨ H2 b = none) → (∀ b, H b = (H1 b).or (H2 b)) → SL A H1 → SL L H2 → SL (A ++ L) H := by
  induction A with
  | nil =>
    intro L H H1 H2 d u _ hL
    have aux : ∀ (L : List HP) (H H2 : PH), (∀ b o, H2 b = some o → H b = some o) → SL L H2 → SL L H := by
      intro L
      induction L with
      | nil => intro _ _ _ _; trivial
      | cons B L ih =>
        intro H H2 hs h
        obtain ⟨H3, H4, d', u', hB, hr⟩ := h
        classical
        refine ⟨H3, fun b => if H3 b = none then H b else none, fun b => ?_, fun b => ?_, hB, ih _ H4 (fun b o hb => ?_) hr⟩
        · by_cases h : H3 b = none <;> simp [h]
        · cases h3 : H3 b with
          | none => simp [h3]
          | some o => have := hs b o (by rw [u' b, h3]; rfl); simp [this]
        · have h3 : H3 b = none := by rcases d' b with h | h; exact h; rw [hb] at h; cases h
          simp only [h3, if_true]
          exact hs b o (by rw [u' b, h3, hb]; rfl)
    refine aux L H H2 (fun b o hb => ?_) hL
    rw [u b, hb]
    rcases d b with h | h
    · rw [h]; rfl
    · rw [hb] at h; cases h
  | cons B A ih =>
    intro L H H1 H2 d u hA hL
    obtain ⟨H3, H4, d', u', hB, hr⟩ := hA
    refine ⟨H3, fun b => (H4 b).or (H2 b), fun b => ?_, fun b => ?_, hB, ih (H1 := H4) (H2 := H2) (fun b => ?_) (fun b => rfl) hr hL⟩
    · have := d b; have := d' b; have := u' b
      cases h3 : H3 b <;> cases h4 : H4 b <;> cases h2 : H2 b <;> simp_all
    · rw [u b, u' b]
      cases h3 : H3 b <;> cases h4 : H4 b <;> simp_all
    · have := d b; have := u' b
      cases h3 : H3 b <;> cases h4 : H4 b <;> cases h2 : H2 b <;> simp_all
theorem SL.weaken {L : List HP} {H H2 : PH} (hs : ∀ b o, H2 b = some o → H b = some o) (h : SL L H2) : SL L H := by
  classical
  refine SL.join (A := []) (H1 := fun b => if H2 b = none then H b else none) (H2 := H2) (fun b => ?_) (fun b => ?_) trivial h
  · by_cases e : H2 b = none <;> simp [e]
  · cases e : H2 b with
    | none => simp
    | some o => simp [hs b o e]
def pt (b : Nat) (o : Obj) : HP := fun H => H b = some o
theorem Sat.block {w0 w : World} {b : Nat} {o : Obj} {L : List HP} (h : Sat w0 w (pt b o :: L)) : w.heap[b]? = some o := by
  obtain ⟨H, hle, hs⟩ := h.mem
  obtain ⟨H1, hA, hsub⟩ := hs.le_self
  exact hle b o (hsub b o hA)
theorem Sat.atom {w0 w : World} {A : HP} {L : List HP} (h : Sat w0 w (A :: L)) : ∃ H1, A H1 ∧ PH.le H1 w := by
  obtain ⟨H, hle, hs⟩ := h.mem
  obtain ⟨H1, hA, hsub⟩ := hs.le_self
  exact ⟨H1, hA, fun b o hb => hle b o (hsub b o hb)⟩
theorem Sat.put {w0 w w' : World} {b : Nat} {o o' : Obj} {L : List HP} (h : Sat w0 w (pt b o :: L)) (h1 : w'.os = w.os) (h2 : w'.tape = w.tape) (h3 : w'.output = w.output)
    (hb : w'.heap[b]? = some o') (hk : ∀ k, k ≠ b → w'.heap[k]? = w.heap[k]?) : Sat w0 w' (pt b o' :: L) := by
  obtain ⟨H, hle, H1, H2, d, u, hA, hL⟩ := h.mem
  refine ⟨h1.trans h.os, h2.trans h.tape, h3.trans h.output, fun k => ((if k = b then some o' else none).or (H2 k)), fun k v hv => ?_, fun k => if k = b then some o' else none, H2, fun k => ?_, fun k => rfl, by simp [pt], hL⟩
  · by_cases e : k = b
    · subst e; simp at hv; rw [← hv]; exact hb
    · simp [e] at hv
      rw [hk k e]
      refine hle k v ?_
      rw [u k, hv]
      rcases d k with h | h
      · rw [h]; rfl
      · rw [hv] at h; cases h
  · by_cases e : k = b
    · subst e
      right
      rcases d k with h | h
      · simp only [pt] at hA; rw [hA] at h; cases h
      · exact h
    · left; simp [e]
theorem Sat.turn {w0 w w' : World} {A B : HP} {L : List HP} (h : Sat w0 w (A :: L)) (h1 : w'.os = w.os) (h2 : w'.tape = w.tape) (h3 : w'.output = w.output)
    (hb : ∀ H1, A H1 → PH.le H1 w → ∃ H1', B H1' ∧ PH.le H1' w' ∧ (∀ b, H1' b ≠ none → H1 b ≠ none ∨ w.heap[b]? = none) ∧ ∀ b, H1 b = none → w.heap[b]? ≠ none → w'.heap[b]? = w.heap[b]?) : Sat w0 w' (B :: L) := by
  obtain ⟨H, hle, H1, H2, d, u, hA, hL⟩ := h.mem
  have hle1 : PH.le H1 w := fun b o hb => hle b o (by rw [u b, hb]; rfl)
  obtain ⟨H1', hB, hle', hown, hkeep⟩ := hb H1 hA hle1
  have hle2 : PH.le H2 w := fun b o hb => hle b o (by
    rw [u b, hb]
    rcases d b with h | h
    · rw [h]; rfl
    · rw [hb] at h; cases h)
  have dd : ∀ b, H1' b = none ∨ H2 b = none := fun b => by
    by_cases e : H1' b = none
    · exact .inl e
    · right
      rcases hown b e with h | h
      · exact (d b).resolve_left h
      · cases e2 : H2 b with
        | none => rfl
        | some o => rw [hle2 b o e2] at h; cases h
  refine ⟨h1.trans h.os, h2.trans h.tape, h3.trans h.output, fun b => (H1' b).or (H2 b), fun b o hbo => ?_, H1', H2, dd, fun _ => rfl, hB, hL⟩
  replace hbo : (H1' b).or (H2 b) = some o := hbo
  cases e : H1' b with
  | some o' => rw [e] at hbo; simp at hbo; rw [← hbo]; exact hle' b o' e
  | none =>
    rw [e] at hbo
    simp at hbo
    have h2 := hle2 b o hbo
    rw [hkeep b ((d b).resolve_right (by rw [hbo]; simp)) (by rw [h2]; simp)]
    exact h2
theorem Sat.alloc {w0 w : World} {o : Obj} {L : List HP} (h : Sat w0 w L) : Sat w0 (w.alloc o) (pt w.heap.size o :: L) := by
  obtain ⟨H, hle, hL⟩ := h.mem
  have hn : H w.heap.size = none := by
    cases e : H w.heap.size with
    | none => rfl
    | some o' => have := hle _ _ e; simp at this
  refine ⟨h.os, h.tape, h.output, fun k => (if k = w.heap.size then some o else none).or (H k), fun k v hv => ?_, fun k => if k = w.heap.size then some o else none, H, fun k => ?_, fun _ => rfl, by simp [pt], hL⟩
  · by_cases e : k = w.heap.size
    · subst e
      simp at hv; rw [← hv]
      exact heap_alloc_new w o
    · simp [e] at hv
      have := hle k v hv
      have hlt : k < w.heap.size := by
        rcases Nat.lt_or_ge k w.heap.size with h | h
        · exact h
        · rw [Array.getElem?_eq_none h] at this; cases this
      rw [heap_alloc_old w o k hlt]
      exact this
  · by_cases e : k = w.heap.size
    · right; rw [e]; exact hn
    · left; simp [e]
theorem Sat.drew {w0 w : World} {L : List HP} (h : Sat w0 w L) : Sat w0 w.drew L := ⟨h.os, h.tape, h.output, h.mem⟩
def pur (p : Prop) : HP := fun _ => p
def base (w0 : World) : HP := fun H => ∀ b, b < w0.heap.size → H b = w0.heap[b]?
theorem Sat.start (w0 : World) : Sat w0 w0 [base w0] :=
  ⟨rfl, rfl, rfl, fun b => w0.heap[b]?, fun _ _ h => h, fun b => w0.heap[b]?, fun _ => none, fun _ => .inr rfl, fun b => by simp, fun _ _ => rfl, trivial⟩
theorem Sat.below {w0 w : World} {L : List HP} (h : Sat w0 w (base w0 :: L)) : Below w0.heap.size w0 w := by
  obtain ⟨H1, hA, hle⟩ := h.atom
  have hb : ∀ k, k < w0.heap.size → w.heap[k]? = w0.heap[k]? := fun k hk => by
    have h1 := hA k hk
    rw [Array.getElem?_eq_getElem hk] at h1 ⊢
    exact hle k _ h1
  refine ⟨h.os, h.tape, h.output, ?_, hb⟩
  rcases Nat.lt_or_ge w.heap.size w0.heap.size with h | h
  · have := hb w.heap.size h
    rw [Array.getElem?_eq_none (Nat.le_refl _), Array.getElem?_eq_getElem h] at this
    cases this
  · exact h
end Go.Proofs.YtamecmklcnohjaaGreat.Sep
namespace Go.Proofs.YtamecmklcnohjaaGreat.Sep
open Go.RowKit

abbrev Env := List (Nat × Value)
def Env.get (e : Env) (t : Nat) : Option Value := List.lookup t e
def ev (e : Env) : Operand → Option Value
  | .tmp t => e.get t
  | .const v => some v
  | .global g => some (.pointer (some ⟨g, 0, none⟩))
  | .func f => some (.func (.func f) #[] #[])
def evl (e : Env) : List Operand → Option (List Value)
  | [] => some []
  | x :: xs => match ev e x with
    | some v => match evl e xs with
      | some vs => some (v :: vs)
      | none => none
    | none => none
def Agree (e : Env) (tm : Array Value) : Prop := ∀ t v, e.get t = some v → tm[t]? = some v
theorem ev_sound {e : Env} {tm : Array Value} {ds : List Deferred} (h : Agree e tm) : ∀ {x : Operand} {v : Value}, ev e x = some v → (Act.mk tm ds).eval x = v := by
  intro x v hx
  cases x with
  | tmp t => have := h t v hx; simp [Act.eval, this]
  | const u => simp [ev] at hx; simp [Act.eval, hx]
  | global g => simp [ev] at hx; simp [Act.eval, hx]
  | func f => simp [ev] at hx; simp [Act.eval, hx]
theorem evl_sound {e : Env} {tm : Array Value} {ds : List Deferred} (h : Agree e tm) : ∀ {xs : List Operand} {vs : List Value}, evl e xs = some vs → xs.map (Act.mk tm ds).eval = vs := by
  intro xs
  induction xs with
  | nil => intro vs hv; simp [evl] at hv; simp [hv]
  | cons x xs ih =>
    intro vs hv
    simp only [evl] at hv
    cases hx : ev e x with
    | none => simp [hx] at hv
    | some v =>
      cases hu : evl e xs with
      | none => simp [hx, hu] at hv
      | some us =>
        simp [hx, hu] at hv
        subst hv
        simp [ev_sound h hx, ih hu]
theorem Agree.put {e : Env} {tm : Array Value} (h : Agree e tm) {d : Nat} {v : Value} (hd : d < tm.size) : Agree ((d, v) :: e) (tm.setIfInBounds d v) := by
  intro t u hu
  simp only [Env.get, List.lookup] at hu
  by_cases e1 : t = d
  · subst e1
    simp at hu
    subst hu
    simp [hd]
  · have : (t == d) = false := by simpa using e1
    rw [this] at hu
    have := h t u hu
    rw [Array.getElem?_setIfInBounds_ne (by omega)]
    exact this
def Env.sub (e e' : Env) : Prop := ∀ t v, e.get t = some v → e'.get t = some v
theorem Env.sub_nil (e : Env) : Env.sub [] e := fun t v h => by simp [Env.get] at h
theorem Env.sub_cons {e e' : Env} {t : Nat} {v : Value} (h : e'.get t = some v) (hs : Env.sub e e') : Env.sub ((t, v) :: e) e' := by
  intro s u hu
  simp only [Env.get, List.lookup] at hu
  by_cases e1 : s = t
  · subst e1; simp at hu; subst hu; exact h
  · have : (s == t) = false := by simpa using e1
    rw [this] at hu
    exact hs s u hu
theorem Agree.sub {e e' : Env} {tm : Array Value} (h : Agree e' tm) (hs : Env.sub e e') : Agree e tm := fun t v ht => h t v (hs t v ht)

inductive KI where
  | code (c : Code)
  | block (id : Nat)
  | pred (R : Act → World → Prop)
structure Cx where
  P : Program
  w0 : World
  n : Nat
  Q : Exit → Act → World → Prop
def kq (C : Cx) : List KI → Exit → Act → World → Prop
  | [] => C.Q
  | .code c :: k => Exit.then (fun a w => c.wp C.P (kq C k) a w) (kq C k)
  | .block id :: k => Exit.inBlock id (kq C k)
  | .pred R :: k => Exit.then R (kq C k)
def X (C : Cx) (k : List KI) (c : Code) (e : Env) (L : List HP) : Prop :=
  ∀ tm w, tm.size = C.n → Agree e tm → Sat C.w0 w L → c.wp C.P (kq C k) ⟨tm, []⟩ w
def XE (C : Cx) (k : List KI) (x : Exit) (e : Env) (L : List HP) : Prop :=
  ∀ tm w, tm.size = C.n → Agree e tm → Sat C.w0 w L → kq C k x ⟨tm, []⟩ w
def XO (C : Cx) (all : Array Oper) (k : List KI) (ops : List Oper) (e : Env) (L : List HP) : Prop :=
  ∀ tm w, tm.size = C.n → Agree e tm → Sat C.w0 w L → wpList C.P all (kq C k) ops ⟨tm, []⟩ w

section
variable {C : Cx} {k : List KI} {e : Env} {L : List HP}
theorem X_seq {a b : Code} (h : X C (.code b :: k) a e L) : X C k (.seq a b) e L := fun tm w h1 h2 h3 => wp_seq (h tm w h1 h2 h3)
theorem X_skip (h : XE C k .normal e L) : X C k .skip e L := fun tm w h1 h2 h3 => wp_skip (h tm w h1 h2 h3)
theorem X_exit {id : Nat} (h : XE C k (.exit id) e L) : X C k (.exit id) e L := fun tm w h1 h2 h3 => wp_exit (h tm w h1 h2 h3)
theorem X_ret (h : XE C k .ret e L) : X C k .ret e L := fun tm w h1 h2 h3 => wp_ret (h tm w h1 h2 h3)
theorem X_block {id : Nat} {c : Code} (h : X C (.block id :: k) c e L) : X C k (.block id c) e L := fun tm w h1 h2 h3 => wp_block (h tm w h1 h2 h3)
theorem X_cond {c : Operand} {a b : Code} {t : Bool} (hc : ev e c = some (.bool t)) (ht : t = true → X C k a e L) (hf : t = false → X C k b e L) : X C k (.cond c a b) e L :=
  fun tm w h1 h2 h3 => wp_cond_split (ev_sound h2 hc) (fun h => ht h tm w h1 h2 h3) (fun h => hf h tm w h1 h2 h3)
theorem XE_code {c : Code} (h : X C k c e L) : XE C (.code c :: k) .normal e L := h
theorem XE_code_exit {c : Code} {id : Nat} (h : XE C k (.exit id) e L) : XE C (.code c :: k) (.exit id) e L := h
theorem XE_code_ret {c : Code} (h : XE C k .ret e L) : XE C (.code c :: k) .ret e L := h
theorem XE_block {id : Nat} (h : XE C k .normal e L) : XE C (.block id :: k) .normal e L := h
theorem XE_block_ret {id : Nat} (h : XE C k .ret e L) : XE C (.block id :: k) .ret e L := h
theorem XE_block_exit {id : Nat} (h : XE C k .normal e L) : XE C (.block id :: k) (.exit id) e L := fun tm w h1 h2 h3 => by
  show (if id = id then kq C k .normal _ _ else _); rw [if_pos rfl]; exact h tm w h1 h2 h3
theorem XE_block_other {id id' : Nat} (hne : (id' == id) = false) (h : XE C k (.exit id') e L) : XE C (.block id :: k) (.exit id') e L := fun tm w h1 h2 h3 => by
  show (if id' = id then _ else kq C k (.exit id') _ _); rw [if_neg (by simpa using hne)]; exact h tm w h1 h2 h3
theorem XE_pred_exit {R : Act → World → Prop} {id : Nat} (h : XE C k (.exit id) e L) : XE C (.pred R :: k) (.exit id) e L := h
theorem XE_pred_ret {R : Act → World → Prop} (h : XE C k .ret e L) : XE C (.pred R :: k) .ret e L := h
theorem X_region {id : Nat} {ops : Array Oper} (h : XO C ops k ops.toList e L) : X C k (.region id ops false) e L :=
  fun tm w h1 h2 h3 => wp_region_list (h tm w h1 h2 h3)
theorem XO_nil {all : Array Oper} (h : XE C k .normal e L) : XO C all k [] e L := fun tm w h1 h2 h3 => wpList_nil (h tm w h1 h2 h3)

theorem X_loop {c : Code} {ι : Type} (I : ι → Prop) (E : ι → Env) (S : ι → List HP) (μ : ι → Nat) (i0 : ι) (hI : I i0) (he : Env.sub (E i0) e) (hL : ∀ H, SL L H → SL (S i0) H)
    (round : ∀ i, I i → X C (.pred (fun a w => ∃ i', I i' ∧ μ i' < μ i ∧ Agree (E i') a.tmps ∧ a.tmps.size = C.n ∧ a.defers = [] ∧ Sat C.w0 w (S i')) :: k) c (E i) (S i)) : X C k (.loop c) e L := by
  intro tm w h1 h2 h3
  classical
  let J : Act → World → ι → Prop := fun a w i => I i ∧ Agree (E i) a.tmps ∧ a.tmps.size = C.n ∧ a.defers = [] ∧ Sat C.w0 w (S i)
  let m : Act → World → Nat := fun a w => if h : ∃ i, J a w i then (Classical.choose (p := fun n => (∃ i, J a w i ∧ μ i = n) ∧ ∀ i, J a w i → n ≤ μ i) (by
    obtain ⟨i, hi⟩ := h
    have key : ∀ n, (∃ i, J a w i ∧ μ i ≤ n) → ∃ n, (∃ i, J a w i ∧ μ i = n) ∧ ∀ i, J a w i → n ≤ μ i := by
      intro n
      induction n with
      | zero => rintro ⟨i, hi, h0⟩; exact ⟨0, ⟨i, hi, by omega⟩, fun _ _ => Nat.zero_le _⟩
      | succ n ih =>
        rintro ⟨i, hi, h0⟩
        by_cases hx : ∃ i, J a w i ∧ μ i ≤ n
        · exact ih hx
        · refine ⟨n + 1, ⟨i, hi, ?_⟩, fun j hj => ?_⟩
          · rcases Nat.lt_or_ge (μ i) (n + 1) with h | h
            · exact absurd ⟨i, hi, by omega⟩ hx
            · omega
          · rcases Nat.lt_or_ge (μ j) (n + 1) with h | h
            · exact absurd ⟨j, hj, by omega⟩ hx
            · exact h
    exact key (μ i) ⟨i, hi, Nat.le_refl _⟩)) else 0
  have mspec : ∀ a w, (∃ i, J a w i) → (∃ i, J a w i ∧ μ i = m a w) ∧ ∀ i, J a w i → m a w ≤ μ i := by
    intro a w h
    simp only [m, dif_pos h]
    exact Classical.choose_spec (p := fun n => (∃ i, J a w i ∧ μ i = n) ∧ ∀ i, J a w i → n ≤ μ i) _
  refine wp_loop (fun a w => ∃ i, J a w i) m ⟨i0, hI, h2.sub he, h1, rfl, h3.map hL⟩ ?_
  intro a w hJ
  obtain ⟨i, ⟨hi, hag, hsz, hdf, hsat⟩, hm⟩ := (mspec a w hJ).1
  obtain ⟨tms, dfs⟩ := a
  simp only at hdf hsz hag
  subst hdf
  refine wp_mono (round i hi tms w hsz hag hsat) ?_
  intro x a' w' hq
  cases x with
  | normal =>
    obtain ⟨i', hi', hlt, hag', hsz', hdf', hsat'⟩ := hq
    have hJ' : ∃ i, J a' w' i := ⟨i', hi', hag', hsz', hdf', hsat'⟩
    refine ⟨hJ', ?_⟩
    have := (mspec a' w' hJ').2 i' ⟨hi', hag', hsz', hdf', hsat'⟩
    omega
  | _ => exact hq
theorem X_round {k' : List KI} {ι : Type} {I : ι → Prop} {E : ι → Env} {S : ι → List HP} {μ : ι → Nat} {m : Nat} (i' : ι) (hI : I i') (hm : μ i' < m) (he : Env.sub (E i') e) (hL : ∀ H, SL L H → SL (S i') H) :
    XE C (.pred (fun a w => ∃ i', I i' ∧ μ i' < m ∧ Agree (E i') a.tmps ∧ a.tmps.size = C.n ∧ a.defers = [] ∧ Sat C.w0 w (S i')) :: k') .normal e L :=
  fun _ _ h1 h2 h3 => ⟨i', hI, hm, h2.sub he, h1, rfl, h3.map hL⟩
theorem X_join {c rest : Code} {ι : Type} (I : ι → Prop) (E : ι → Env) (S : ι → List HP) (h1 : X C (.pred (fun a w => ∃ i, I i ∧ Agree (E i) a.tmps ∧ a.tmps.size = C.n ∧ a.defers = [] ∧ Sat C.w0 w (S i)) :: k) c e L) (h2 : ∀ i, I i → X C k rest (E i) (S i)) : X C (.code rest :: k) c e L := by
  intro tm w hn ha hs
  refine wp_mono (h1 tm w hn ha hs) ?_
  intro x a' w' hq
  cases x with
  | normal =>
    obtain ⟨i, hi, hag, hsz, hdf, hsat⟩ := hq
    obtain ⟨tms, dfs⟩ := a'
    simp only at hdf hsz hag
    subst hdf
    exact h2 i hi tms w' hsz hag hsat
  | _ => exact hq
theorem X_meet {k' : List KI} {ι : Type} {I : ι → Prop} {E : ι → Env} {S : ι → List HP} (i : ι) (hI : I i) (he : Env.sub (E i) e) (hL : ∀ H, SL L H → SL (S i) H) :
    XE C (.pred (fun a w => ∃ i, I i ∧ Agree (E i) a.tmps ∧ a.tmps.size = C.n ∧ a.defers = [] ∧ Sat C.w0 w (S i)) :: k') .normal e L :=
  fun _ _ h1 h2 h3 => ⟨i, hI, h2.sub he, h1, rfl, h3.map hL⟩
theorem X_conv {c : Code} {L' : List HP} (hL : ∀ H, SL L H → SL L' H) (h : X C k c e L') : X C k c e L := fun tm w h1 h2 h3 => h tm w h1 h2 (h3.map hL)
theorem XO_conv {all : Array Oper} {ops : List Oper} {L' : List HP} (hL : ∀ H, SL L H → SL L' H) (h : XO C all k ops e L') : XO C all k ops e L := fun tm w h1 h2 h3 => h tm w h1 h2 (h3.map hL)
theorem XE_conv {x : Exit} {L' : List HP} (hL : ∀ H, SL L H → SL L' H) (h : XE C k x e L') : XE C k x e L := fun tm w h1 h2 h3 => h tm w h1 h2 (h3.map hL)

def Runs (C : Cx) (o : Op) (ty : TypeId) (e : Env) (L : List HP) (Φ : Value → List HP → Prop) : Prop :=
  ∀ tm w pos aft, tm.size = C.n → Agree e tm → Sat C.w0 w L → ∃ v w' L', (execOp (Act.mk tm []).eval ⟨none, o, ty, pos, aft, none⟩).run C.P w = .ok (.value v) w' ∧ Φ v L' ∧ Sat C.w0 w' L'
def RunsU (C : Cx) (o : Op) (ty : TypeId) (e : Env) (L : List HP) (Φ : List HP → Prop) : Prop :=
  ∀ tm w pos aft, tm.size = C.n → Agree e tm → Sat C.w0 w L → ∃ w' L', (execOp (Act.mk tm []).eval ⟨none, o, ty, pos, aft, none⟩).run C.P w = .ok .skip w' ∧ Φ L' ∧ Sat C.w0 w' L'
theorem execOp_dst (ρ : Operand → Value) (d : Option Tmp) (o : Op) (ty : TypeId) (pos : String) (aft : Array Edge) (g : Option (Nat × Bool)) :
    execOp ρ ⟨d, o, ty, pos, aft, g⟩ = execOp ρ ⟨none, o, ty, pos, aft, none⟩ := rfl
variable {all : Array Oper} {rest : List Oper} {op : Op} {ty : TypeId} {pos : String} {aft : Array Edge}
theorem XO_runs {d : Nat} {Φ : Value → List HP → Prop} (hr : Runs C op ty e L Φ) (hd : d < C.n) (h : ∀ v L', Φ v L' → XO C all k rest ((d, v) :: e) L') :
    XO C all k (⟨some d, op, ty, pos, aft, none⟩ :: rest) e L := by
  intro tm w h1 h2 h3
  unfold wpList
  rw [if_pos (show Region.wanted _ _ = true from rfl)]
  left
  obtain ⟨v, w', L', hrun, hΦ, hs⟩ := hr tm w pos aft h1 h2 h3
  unfold Oper.wp
  rw [execOp_dst, hrun, Oper.upon_value]
  exact h v L' hΦ _ w' (by simp [h1]) (h2.put (by rw [h1]; exact hd)) hs
theorem yielded_of {tm : Array Value} {j t : Nat} {b : Bool} (hj : (all[j]?).bind (·.dst) = some t) (ht : tm[t]? = some (.bool b)) : yielded all tm j = some b := by
  unfold yielded; rw [hj]; simp [ht]
end

theorem ent_refl {L : List HP} : ∀ H, SL L H → SL L H := fun _ h => h
theorem ent_take {L R L' : List HP} {A : HP} (hf : Find L A R) (h : ∀ H, SL R H → SL L' H) : ∀ H, SL L H → SL (A :: L') H := fun _ hh => SL.cons h (hf.fwd hh)
theorem ent_drop {R L' : List HP} {A : HP} (h : ∀ H, SL R H → SL L' H) : ∀ H, SL (A :: R) H → SL L' H := fun H hh => by
  obtain ⟨H2, h2, hs⟩ := SL.drop hh
  exact SL.weaken hs (h H2 h2)

theorem ent_fold {L S R L' : List HP} {A : HP} (hf : FindAll L S R) (hc : ∀ H, SL S H → A H) (h : ∀ H, SL R H → SL L' H) : ∀ H, SL L H → SL (A :: L') H := fun H hh => by
  obtain ⟨H1, H2, d, u, h1, h2⟩ := SL.split (hf.fwd hh)
  exact ⟨H1, H2, d, u, hc _ h1, h _ h2⟩
theorem Sat.openA {w0 w : World} {A : HP} {R : List HP} {ι : Type} {φ : ι → Prop} {S : ι → List HP} (h : Sat w0 w (A :: R)) (ho : ∀ H, A H → ∃ x, φ x ∧ SL (S x) H) : ∃ x, φ x ∧ Sat w0 w (S x ++ R) := by
  obtain ⟨H, hle, H1, H2, d, u, hA, hR⟩ := h.mem
  obtain ⟨x, hx, hS⟩ := ho H1 hA
  exact ⟨x, hx, h.os, h.tape, h.output, H, hle, SL.join d u hS hR⟩
section
variable {C : Cx} {k : List KI} {e : Env} {L R : List HP} {A : HP} {ι : Type} {φ : ι → Prop} {S : ι → List HP}
theorem XO_open {all : Array Oper} {ops : List Oper} (hf : Find L A R) (ho : ∀ H, A H → ∃ x, φ x ∧ SL (S x) H) (h : ∀ x, φ x → XO C all k ops e (S x ++ R)) : XO C all k ops e L := fun tm w h1 h2 h3 => by
  obtain ⟨x, hx, hs⟩ := (h3.find hf).openA ho
  exact h x hx tm w h1 h2 hs
theorem X_open {c : Code} (hf : Find L A R) (ho : ∀ H, A H → ∃ x, φ x ∧ SL (S x) H) (h : ∀ x, φ x → X C k c e (S x ++ R)) : X C k c e L := fun tm w h1 h2 h3 => by
  obtain ⟨x, hx, hs⟩ := (h3.find hf).openA ho
  exact h x hx tm w h1 h2 hs
theorem X_fact {c : Code} {p : Prop} (hf : Find L A R) (hp : ∀ H, A H → p) (h : p → X C k c e L) : X C k c e L := fun tm w h1 h2 h3 => by
  obtain ⟨H, hA, _⟩ := (h3.find hf).atom
  exact h (hp H hA) tm w h1 h2 h3
theorem XO_fact {all : Array Oper} {ops : List Oper} {p : Prop} (hf : Find L A R) (hp : ∀ H, A H → p) (h : p → XO C all k ops e L) : XO C all k ops e L := fun tm w h1 h2 h3 => by
  obtain ⟨H, hA, _⟩ := (h3.find hf).atom
  exact h (hp H hA) tm w h1 h2 h3
theorem XE_open {x : Exit} (hf : Find L A R) (ho : ∀ H, A H → ∃ x, φ x ∧ SL (S x) H) (h : ∀ y, φ y → XE C k x e (S y ++ R)) : XE C k x e L := fun tm w h1 h2 h3 => by
  obtain ⟨y, hy, hs⟩ := (h3.find hf).openA ho
  exact h y hy tm w h1 h2 hs
end

def Enters (P : Program) (f : FuncId) : Prop := ∀ args w, (callFunc f args).run P w = .ok (.enter f args) w
def Spec (P : Program) (f : FuncId) (args : List Value) (pre : List HP) (post : Value → List HP → Prop) : Prop :=
  Enters P f ∧ ∀ w0 w F, Sat w0 w (pre ++ F) → Calls P f args.toArray w fun e w' => ∃ v L', e = .returned v ∧ post v L' ∧ Sat w0 w' (L' ++ F)
theorem Spec.mono {P : Program} {f : FuncId} {args : List Value} {pre : List HP} {post post' : Value → List HP → Prop} (h : Spec P f args pre post) (hp : ∀ v L, post v L → post' v L) : Spec P f args pre post' :=
  ⟨h.1, fun w0 w F hs => (h.2 w0 w F hs).mono fun _ _ ⟨v, L', he, hq, hs'⟩ => ⟨v, L', he, hp _ _ hq, hs'⟩⟩
def envOf (args : List Value) : Env := args.zipIdx.map fun (v, i) => (i, v)
theorem agree_envOf (args : List Value) (n : Nat) : Agree (envOf args) (args.toArray ++ Array.replicate n undef) := by
  have key : ∀ (l : List Value) (s t : Nat) (v : Value), List.lookup t ((l.zipIdx s).map fun (v, i) => (i, v)) = some v → ∃ i, t = s + i ∧ l[i]? = some v := by
    intro l
    induction l with
    | nil => intro s t v h; simp at h
    | cons x l ih =>
      intro s t v h
      simp only [List.zipIdx_cons, List.map_cons, List.lookup] at h
      by_cases e : t = s
      · subst e; simp at h; exact ⟨0, rfl, by simp [h]⟩
      · have : (t == s) = false := by simpa using e
        rw [this] at h
        obtain ⟨i, hi, hv⟩ := ih (s + 1) t v h
        exact ⟨i + 1, by omega, by simpa using hv⟩
  intro t v h
  obtain ⟨i, hi, hv⟩ := key args 0 t v h
  have : i < args.length := (List.getElem?_eq_some_iff.1 hv).1
  obtain rfl : t = i := by omega
  rw [Array.getElem?_append_left (by simpa using this)]
  simpa using hv
def rvs (e : Env) : List ResultVar → Option (List Value)
  | [] => some []
  | .tmp t :: l => (e.get t).bind fun v => (rvs e l).map (v :: ·)
  | .cell _ _ :: _ => none
def tup : List Value → Value
  | [v] => v
  | l => .tuple l.toArray
def Post (P : Program) (fn : Func) (w0 : World) (F : List HP) (post : Value → List HP → Prop) : Exit → Act → World → Prop :=
  bodyPost P fn fun e w' => ∃ v L', e = .returned v ∧ post v L' ∧ Sat w0 w' (L' ++ F)
theorem Spec.intro {P : Program} {f : FuncId} {fn : Func} {c : Code} {args : List Value} {pre : List HP} {post : Value → List HP → Prop} {n : Nat}
    (he : Enters P f) (hf : P.funcs[f]? = some fn) (hb : fn.body = some c) (hn : fn.ntmps = n) (hle : args.length ≤ n)
    (h : ∀ w0 F, X ⟨P, w0, n, Post P fn w0 F post⟩ [] c (envOf args) (pre ++ F)) : Spec P f args pre post := by
  refine ⟨he, fun w0 w F hs => calls_of_wp hf hb ?_⟩
  have := h w0 F (args.toArray ++ Array.replicate (fn.ntmps - args.toArray.size) undef) w (by simp [hn]; omega) (agree_envOf _ _) hs
  exact this
theorem run_mapM_tmps {P : Program} {w : World} {tm : Array Value} {e : Env} (h : Agree e tm) : ∀ {l : List ResultVar} {vs : List Value}, rvs e l = some vs →
    (l.mapM (m := Sem) fun | .tmp t => pure (tm.getD t undef) | .cell a t => do loadVar t (← asAddr (tm.getD a undef))).run P w = .ok vs w := by
  intro l
  induction l with
  | nil => intro vs hv; simp [rvs] at hv; subst hv; rfl
  | cons x l ih =>
    intro vs hv
    cases x with
    | cell a t => simp [rvs] at hv
    | tmp t =>
      simp only [rvs, Option.bind_eq_some_iff, Option.map_eq_some_iff] at hv
      obtain ⟨v, hx, us, hu, rfl⟩ := hv
      have h1 := h t v hx
      have h2 := ih hu
      simp only [List.mapM_cons, Sem.run_bind, Sem.run_pure, Result.andThen_ok, h2]
      simp [h1]
def Tells (C : Cx) (fn : Func) (e : Env) (L : List HP) (v : Value) : Prop := ∀ tm w, tm.size = C.n → Agree e tm → Sat C.w0 w L → (results fn tm).run C.P w = .ok v w
theorem tells_tmps {C : Cx} {fn : Func} {e : Env} {L : List HP} {rs : List ResultVar} {vs : List Value} (hr : fn.results = rs.toArray) (hv : rvs e rs = some vs) : Tells C fn e L (tup vs) := by
  intro tm w _ h2 _
  have := run_mapM_tmps (P := C.P) (w := w) h2 hv
  unfold results
  rw [hr, List.mapM_toArray]
  simp only [Sem.run_bind, Sem.run_map, Sem.run_pure]
  refine (congrArg (fun r : Result (List Value) => (r.andThen fun a w' => Result.ok a.toArray w').andThen fun a w' => Result.ok (if h : a.size = 1 then a[0] else Value.tuple a) w') this).trans ?_
  show Result.ok (if h : vs.toArray.size = 1 then vs.toArray[0] else Value.tuple vs.toArray) w = _
  congr 1
  unfold tup
  match vs with
  | [] => rfl
  | [v] => rfl
  | v :: u :: l => simp
theorem XE_ret {P : Program} {fn : Func} {w0 : World} {n : Nat} {F : List HP} {post : Value → List HP → Prop} {e : Env} {L : List HP} {v : Value} {x : Exit} (hx : x = .ret ∨ x = .normal)
    (hv : Tells ⟨P, w0, n, Post P fn w0 F post⟩ fn e L v) (h : ∃ L', post v L' ∧ ∀ H, SL L H → SL (L' ++ F) H) : XE ⟨P, w0, n, Post P fn w0 F post⟩ [] x e L := by
  obtain ⟨L', hp, hL⟩ := h
  intro tm w h1 h2 h3
  have fin : ([] : List Deferred) = [] ∧ ∃ v, (results fn tm).run P w = .ok v w ∧ ∃ v' L', Ending.returned v = .returned v' ∧ post v' L' ∧ Sat w0 w (L' ++ F) :=
    ⟨rfl, v, hv tm w h1 h2 h3, v, L', rfl, hp, h3.map hL⟩
  rcases hx with rfl | rfl <;> exact fin
def isTrue : Value → List HP → Prop := fun v L => v = .bool true ∧ L = []
theorem law_intro {P : Program} {f : FuncId} {fn : Func} {c : Code} {args : List Value} {n : Nat} {W : World} (hf : P.funcs[f]? = some fn) (hb : fn.body = some c) (hn : fn.ntmps = n) (hle : args.length ≤ n)
    (h : X ⟨P, W, n, Post P fn W [base W] isTrue⟩ [] c (envOf args) [base W]) : Calls P f args.toArray W fun e w' => e = .returned (.bool true) ∧ Below W.heap.size W w' := by
  refine (calls_of_wp (R := fun e w' => ∃ v L', e = .returned v ∧ isTrue v L' ∧ Sat W w' (L' ++ [base W])) hf hb ?_).mono ?_
  · have := h (args.toArray ++ Array.replicate (fn.ntmps - args.toArray.size) undef) W (by simp [hn]; omega) (agree_envOf _ _) (Sat.start W)
    exact this
  · rintro e w' ⟨v, L', rfl, ⟨rfl, rfl⟩, hs⟩
    exact ⟨rfl, hs.below⟩
theorem FDs {L R : List HP} {A : HP} (h : Find L A R := by repeat (first | exact Find.here | apply Find.there)) : Find L A R := h
theorem FAs {L S R : List HP} (h : FindAll L S R := by repeat (first | exact FindAll.nil | exact Find.here | apply Find.there | apply FindAll.cons)) : FindAll L S R := h
theorem SBs {e e' : Env} (h : Env.sub e e' := by repeat (first | exact Env.sub_nil _ | refine Env.sub_cons rfl ?_)) : Env.sub e e' := h
theorem EN {L L' : List HP} (h : ∀ H, SL L H → SL L' H := by ((try simp only [List.cons_append, List.nil_append]); repeat (first | exact ent_refl | refine ent_take (by repeat (first | exact Find.here | apply Find.there)) ?_ | refine ent_drop ?_))) : ∀ H, SL L H → SL L' H := h
end Go.Proofs.YtamecmklcnohjaaGreat.Sep
namespace Go.Proofs.YtamecmklcnohjaaGreat.Sep
open Go.RowKit
set_option linter.unusedSimpArgs false
set_option linter.unusedVariables false

class IsEnt (P : Program) (f : FuncId) : Prop where
  out : Enters P f
class TU (P : Program) (t : TypeId) (d : outParam TypeDesc) : Prop where
  out : P.underlying t = some d
class TI (P : Program) (t : TypeId) (z : outParam Value) (size bytes : outParam Nat) : Prop where
  out : ∃ i, P.info? t = some i ∧ i.zero = some z ∧ i.size = size ∧ i.bytes = bytes
def aggD : TypeDesc → Bool
  | .struct _ | .array _ _ => true
  | _ => false
section
variable {P : Program} {w : World} {t : TypeId}
theorem run_und {d : TypeDesc} (h : P.underlying t = some d) : (underlying t).run P w = .ok d w := by simp [underlying, h]
theorem run_isAgg {d : TypeDesc} (h : P.underlying t = some d) : (isAgg t).run P w = .ok (aggD d) w := by
  simp only [isAgg, Sem.run_bind, run_und h, Result.andThen_ok]
  cases d <;> rfl
theorem run_size {z : Value} {s b : Nat} (h : TI P t z s b) : (sizeOf t).run P w = .ok s w := by
  obtain ⟨i, h1, _, h3, _⟩ := h.out
  simp [sizeOf, typeInfo, h1, h3]
theorem run_zero {z : Value} {s b : Nat} (h : TI P t z s b) : (zeroValue t).run P w = .ok z w := by
  obtain ⟨i, h1, h2, _, _⟩ := h.out
  simp [zeroValue, typeInfo, h1, h2]
end

section
variable {P : Program} {w0 : World} {n : Nat} {Q : Exit → Act → World → Prop} {k : List KI} {e : Env} {L : List HP} {all : Array Oper} {rest : List Oper} {ty : TypeId} {pos : String} {aft : Array Edge} {d : Nat}
def PV (P : Program) (op : Op) (ty : TypeId) (e : Env) (v : Value) : Prop :=
  ∀ tm w pos aft, Agree e tm → (execOp (Act.mk tm []).eval ⟨none, op, ty, pos, aft, none⟩).run P w = .ok (.value v) w
theorem XO_pv {op : Op} {v : Value} (h : PV P op ty e v) (hd : d < n := by exact Nat.le_of_ble_eq_true rfl) (hk : XO ⟨P, w0, n, Q⟩ all k rest ((d, v) :: e) L) : XO ⟨P, w0, n, Q⟩ all k (⟨some d, op, ty, pos, aft, none⟩ :: rest) e L :=
  XO_runs (Φ := fun v' L' => v' = v ∧ L' = L) (fun tm w pos aft _ h2 h3 => ⟨v, w, L, h tm w pos aft h2, ⟨rfl, rfl⟩, h3⟩) hd (fun _ _ ⟨h1, h2⟩ => by subst h1 h2; exact hk)
def RV (P : Program) (w0 : World) (op : Op) (ty : TypeId) (e : Env) (L : List HP) (v : Value) : Prop :=
  ∀ tm w pos aft, Agree e tm → Sat w0 w L → (execOp (Act.mk tm []).eval ⟨none, op, ty, pos, aft, none⟩).run P w = .ok (.value v) w
theorem rv_of_pv {op : Op} {v : Value} (h : PV P op ty e v) : RV P w0 op ty e L v := fun tm w pos aft h1 _ => h tm w pos aft h1
theorem XO_rv {op : Op} {v : Value} (h : RV P w0 op ty e L v) (hd : d < n := by exact Nat.le_of_ble_eq_true rfl) (hk : XO ⟨P, w0, n, Q⟩ all k rest ((d, v) :: e) L) : XO ⟨P, w0, n, Q⟩ all k (⟨some d, op, ty, pos, aft, none⟩ :: rest) e L :=
  XO_runs (Φ := fun v' L' => v' = v ∧ L' = L) (fun tm w pos aft _ h2 h3 => ⟨v, w, L, h tm w pos aft h2 h3, ⟨rfl, rfl⟩, h3⟩) hd (fun _ _ ⟨h1, h2⟩ => by subst h1 h2; exact hk)
def DV (P : Program) (w0 : World) (op : Op) (ty : TypeId) (e : Env) (L : List HP) (Φ : Value → List HP → Prop) : Prop :=
  ∀ tm w pos aft (d : Option Nat) (K : Act → World → Prop) (Q : Exit → Act → World → Prop), Agree e tm → Sat w0 w L → (∀ v w' L', Φ v L' → Sat w0 w' L' → K ((Act.mk tm []).put d v) w') →
    Oper.wp P ⟨d, op, ty, pos, aft, none⟩ ⟨tm, []⟩ w K Q
theorem dv_of_run {op : Op} {Φ : Value → List HP → Prop} (h : ∀ tm w pos aft, Agree e tm → Sat w0 w L → ∃ v w' L', (execOp (Act.mk tm []).eval ⟨none, op, ty, pos, aft, none⟩).run P w = .ok (.value v) w' ∧ Φ v L' ∧ Sat w0 w' L') : DV P w0 op ty e L Φ := by
  intro tm w pos aft d K Q h1 h2 hK
  obtain ⟨v, w', L', hrun, hΦ, hs⟩ := h tm w pos aft h1 h2
  unfold Oper.wp
  rw [execOp_dst, hrun, Oper.upon_value]
  exact hK v w' L' hΦ hs
theorem dv_of_skip {op : Op} {Φ : Value → List HP → Prop} (h : ∀ tm w pos aft, Agree e tm → Sat w0 w L → ∃ w' L', (execOp (Act.mk tm []).eval ⟨none, op, ty, pos, aft, none⟩).run P w = .ok .skip w' ∧ Φ undef L' ∧ Sat w0 w' L') : DV P w0 op ty e L Φ := by
  intro tm w pos aft d K Q h1 h2 hK
  obtain ⟨w', L', hrun, hΦ, hs⟩ := h tm w pos aft h1 h2
  unfold Oper.wp
  rw [execOp_dst, hrun, Oper.upon_skip]
  exact hK _ w' L' hΦ hs
theorem dv_of_rv {op : Op} {v : Value} (h : RV P w0 op ty e L v) : DV P w0 op ty e L (fun v' L' => v' = v ∧ L' = L) :=
  dv_of_run fun tm w pos aft h1 h2 => ⟨v, w, L, h tm w pos aft h1 h2, ⟨rfl, rfl⟩, h2⟩
theorem XO_dv {op : Op} {Φ : Value → List HP → Prop} (h : DV P w0 op ty e L Φ) (hd : d < n := by exact Nat.le_of_ble_eq_true rfl) (hk : ∀ v L', Φ v L' → XO ⟨P, w0, n, Q⟩ all k rest ((d, v) :: e) L') : XO ⟨P, w0, n, Q⟩ all k (⟨some d, op, ty, pos, aft, none⟩ :: rest) e L := by
  intro tm w h1 h2 h3
  unfold wpList
  rw [if_pos (show Region.wanted _ _ = true from rfl)]
  exact .inl (h tm w pos aft (some d) _ _ h2 h3 fun v w' L' hΦ hs => hk v L' hΦ _ w' (by simp [Act.put, h1]) (h2.put (by rw [h1]; exact hd)) hs)
theorem XO_dv0 {op : Op} {Φ : Value → List HP → Prop} (h : DV P w0 op ty e L Φ) (hk : ∀ v L', Φ v L' → XO ⟨P, w0, n, Q⟩ all k rest e L') : XO ⟨P, w0, n, Q⟩ all k (⟨none, op, ty, pos, aft, none⟩ :: rest) e L := by
  intro tm w h1 h2 h3
  unfold wpList
  rw [if_pos (show Region.wanted _ _ = true from rfl)]
  exact .inl (h tm w pos aft none _ _ h2 h3 fun v w' L' hΦ hs => hk v L' hΦ _ w' h1 h2 hs)
theorem wrap_i64 {x : Int} (h0 : -9223372036854775808 ≤ x) (h1 : x ≤ 9223372036854775807) : IntKind.i64.wrap x = x := by
  simp [IntKind.wrap, IntKind.bits, IntKind.signed]; omega
theorem wrap_u64 {x : Int} (h0 : 0 ≤ x) (h1 : x ≤ 18446744073709551615) : IntKind.u64.wrap x = x := by
  simp [IntKind.wrap, IntKind.bits, IntKind.signed]; omega
theorem pv_move {x : Operand} {v : Value} (hx : ev e x = some v := by rfl) : PV P (.move x) ty e (v) := fun tm w pos aft h => by simp [execOp, ev_sound h hx]
theorem pv_assign {x : Operand} {v : Value} (hx : ev e x = some v := by rfl) : PV P (.assign x) ty e (v) := fun tm w pos aft h => by simp [execOp, ev_sound h hx]
theorem pv_nil_ptr {x : Operand} {a : Addr} (hx : ev e x = some (.pointer (some a)) := by rfl) : PV P (.nilCheck x) ty e (.pointer (some a)) :=
  fun tm w pos aft h => by simp [execOp, ev_sound h hx]
theorem pv_nil_fn {x : Operand} {f : FuncId} {a c : Array Value} (hx : ev e x = some (.func (.func f) a c) := by rfl) : PV P (.nilCheck x) ty e (.func (.func f) a c) :=
  fun tm w pos aft h => by simp [execOp, ev_sound h hx]
def bitop (op : BinOp) (k : IntKind) (x y : Int) : Int :=
  let a := BitVec.ofInt k.bits x
  let b := BitVec.ofInt k.bits y
  k.wrap (match op with | .and => a &&& b | .or => a ||| b | .xor => a ^^^ b | _ => a &&& ~~~b).toNat
def icmp : BinOp → Int → Int → Option Bool
  | .eql, a, b => some (a == b)
  | .neq, a, b => some (a != b)
  | .lss, a, b => some (decide (a < b))
  | .leq, a, b => some (decide (a ≤ b))
  | .gtr, a, b => some (decide (b < a))
  | .geq, a, b => some (decide (b ≤ a))
  | _, _, _ => none
def iarith : BinOp → IntKind → Int → Int → Option Int
  | .add, _, a, b => some (a + b)
  | .sub, _, a, b => some (a - b)
  | .mul, _, a, b => some (a * b)
  | _, _, _, _ => none
theorem run_guard_int {op : BinOp} {t : TypeId} {x y : Operand} {kk : IntKind} {a : Int} {v : Value} {w : World} : (eqGuard op t x y (.int kk a) v).run P w = .ok () w := by
  cases op <;> simp [eqGuard]
theorem run_guard_bool {op : BinOp} {t : TypeId} {x y : Operand} {b : Bool} {v : Value} {w : World} : (eqGuard op t x y (.bool b) v).run P w = .ok () w := by
  cases op <;> simp [eqGuard]
theorem run_guard_ptr {op : BinOp} {t : TypeId} {x y : Operand} {b : Option Addr} {v : Value} {w : World} : (eqGuard op t x y (.pointer b) v).run P w = .ok () w := by
  cases op <;> simp [eqGuard]
theorem pv_cmp {op : BinOp} {t t' : TypeId} {x y : Operand} {kk : IntKind} {a b : Int} {r : Bool} (hx : ev e x = some (.int kk a) := by rfl) (hy : ev e y = some (.int kk b) := by rfl) (hr : icmp op a b = some r := by rfl) : PV P (.binOp op t x y t') ty e (.bool r) :=
  fun tm w pos aft h => by
    simp only [execOp, ev_sound h hx, ev_sound h hy, Sem.run_bind, run_guard_int, Result.andThen_ok]
    cases op <;> simp [icmp] at hr <;> subst hr <;> simp [binOp, Op.intCmp]
theorem pv_arith {op : BinOp} {t t' : TypeId} {x y : Operand} {kk : IntKind} {a b r r' : Int} (hx : ev e x = some (.int kk a) := by rfl) (hy : ev e y = some (.int kk b) := by rfl) (hr : iarith op kk a b = some r := by rfl) (hw : kk.wrap r = r' := by first | exact wrap_i64 (by omega) (by omega) | exact wrap_u64 (by omega) (by omega) | rfl) : PV P (.binOp op t x y t') ty e (.int kk r') :=
  fun tm w pos aft h => by
    subst hw
    simp only [execOp, ev_sound h hx, ev_sound h hy, Sem.run_bind, run_guard_int, Result.andThen_ok]
    cases op <;> simp [iarith] at hr <;> subst hr <;> simp [binOp, Op.intArith]
theorem pv_conv_int {s t : TypeId} {x : Operand} {kk k' : IntKind} {a r : Int} {ds : TypeDesc} [hs : TU P s ds] [ht : TU P t (.int k')] (hx : ev e x = some (.int kk a) := by rfl) (hds : ds = .int kk := by rfl) (hw : k'.wrap a = r := by first | exact wrap_i64 (by omega) (by omega) | exact wrap_u64 (by omega) (by omega) | rfl) : PV P (.convert s t x) ty e (.int k' r) :=
  fun tm w pos aft h => by
    subst hw hds
    simp [execOp, ev_sound h hx, convert, run_und hs.out, run_und ht.out, Conv.intToInt]
theorem pv_not {t : TypeId} {x : Operand} {b : Bool} (hx : ev e x = some (.bool b) := by rfl) : PV P (.unOp .not t x) ty e (.bool (!b)) :=
  fun tm w pos aft h => by simp [execOp, ev_sound h hx, Op.unary]
theorem eval_const {tm : Array Value} {ds : List Deferred} {v : Value} : (Act.mk tm ds).eval (.const v) = v := rfl
theorem equal_at (P : Program) (w : World) (t : TypeId) (x y : Value) {r : Bool} (h : ∀ d, (Op.equalIn (d + 1) t x y).run P w = .ok r w) : (Op.equal t x y).run P w = .ok r w := h 9999
theorem run_eqb {t : TypeId} {a b : Bool} (ht : P.underlying t = some .bool) {w : World} : (Op.equal t (.bool a) (.bool b)).run P w = .ok (a == b) w :=
  equal_at P w t _ _ fun d => by simp [Op.equalIn, run_und ht]
theorem run_eqnil {t el : TypeId} {a : Option Addr} (ht : P.underlying t = some (.pointer el)) {w : World} : (Op.equal t (.pointer a) (.pointer none)).run P w = .ok a.isNone w :=
  equal_at P w t _ _ fun d => by cases a <;> simp [Op.equalIn, run_und ht]
theorem pv_eqb {t t' : TypeId} {x y : Operand} {a b : Bool} {dd : TypeDesc} [ht : TU P t dd] (hdd : dd = .bool := by rfl) (hx : ev e x = some (.bool a) := by rfl) (hy : ev e y = some (.bool b) := by rfl) : PV P (.binOp .eql t x y t') ty e (.bool (a == b)) :=
  fun tm w pos aft h => by
    subst hdd
    simp only [execOp, ev_sound h hx, ev_sound h hy, Sem.run_bind, run_guard_bool, Result.andThen_ok]
    simp [binOp, run_eqb ht.out]
theorem pv_neb {t t' : TypeId} {x y : Operand} {a b : Bool} {dd : TypeDesc} [ht : TU P t dd] (hdd : dd = .bool := by rfl) (hx : ev e x = some (.bool a) := by rfl) (hy : ev e y = some (.bool b) := by rfl) : PV P (.binOp .neq t x y t') ty e (.bool (!(a == b))) :=
  fun tm w pos aft h => by
    subst hdd
    simp only [execOp, ev_sound h hx, ev_sound h hy, Sem.run_bind, run_guard_bool, Result.andThen_ok]
    simp [binOp, run_eqb ht.out]
theorem pv_eqnil {t t' : TypeId} {x : Operand} {a : Option Addr} {el : TypeId} [ht : TU P t (.pointer el)] (hx : ev e x = some (.pointer a) := by rfl) : PV P (.binOp .eql t x (.const (.pointer none)) t') ty e (.bool a.isNone) :=
  fun tm w pos aft h => by
    simp only [execOp, ev_sound h hx, Sem.run_bind, run_guard_ptr, Result.andThen_ok]
    simp [eval_const, binOp, run_eqnil ht.out]
theorem pv_nenil {t t' : TypeId} {x : Operand} {a : Option Addr} {el : TypeId} [ht : TU P t (.pointer el)] (hx : ev e x = some (.pointer a) := by rfl) : PV P (.binOp .neq t x (.const (.pointer none)) t') ty e (.bool a.isSome) :=
  fun tm w pos aft h => by
    simp only [execOp, ev_sound h hx, Sem.run_bind, run_guard_ptr, Result.andThen_ok]
    simp [eval_const, binOp, run_eqnil ht.out]
theorem pv_extract {x : Operand} {i : Nat} {vs : Array Value} {v : Value} (hx : ev e x = some (.tuple vs) := by rfl) (hv : vs[i]? = some v := by rfl) : PV P (.extract x i) ty e (v) :=
  fun tm w pos aft h => by simp [execOp, ev_sound h hx, Instr.extract, hv]
theorem pv_pickT {c x y : Operand} {v : Value} (hc : ev e c = some (.bool true) := by rfl) (hx : ev e x = some v := by rfl) : PV P (.pick c x y) ty e (v) :=
  fun tm w pos aft h => by simp [execOp, ev_sound h hc, asBool, ev_sound h hx]
theorem pv_pickF {c x y : Operand} {v : Value} (hc : ev e c = some (.bool false) := by rfl) (hy : ev e y = some v := by rfl) : PV P (.pick c x y) ty e (v) :=
  fun tm w pos aft h => by simp [execOp, ev_sound h hc, asBool, ev_sound h hy]
theorem pv_len_slice {t : TypeId} {x : Operand} {a : Option Addr} {m c : Nat} {el : TypeId} [ht : TU P t (.slice el)] (hx : ev e x = some (.slice a m c) := by rfl) : PV P (.call ⟨.builtin .len, #[x], #[t]⟩) ty e (.int .i64 (m : Int)) :=
  fun tm w pos aft h => by
    have : (underlying t).run P w = .ok (.slice el) w := run_und ht.out
    simp [execOp, resolve, invoke, builtin, Builtin.len_, ev_sound h hx, this, goInt]
theorem pv_max {ts : Array TypeId} {x y : Operand} {kk k' : IntKind} {a b : Int} (hx : ev e x = some (.int kk a) := by rfl) (hy : ev e y = some (.int k' b) := by rfl) : PV P (.call ⟨.builtin .max, #[x, y], ts⟩) ty e (.int kk (max a b)) :=
  fun tm w pos aft h => by
    have : (if a < b then b else a) = max a b := by rw [Int.max_def]; split <;> split <;> omega
    simp [execOp, resolve, invoke, builtin, Builtin.max_, Builtin.max2, ev_sound h hx, ev_sound h hy, this]
theorem pv_min {ts : Array TypeId} {x y : Operand} {kk k' : IntKind} {a b : Int} (hx : ev e x = some (.int kk a) := by rfl) (hy : ev e y = some (.int k' b) := by rfl) : PV P (.call ⟨.builtin .min, #[x, y], ts⟩) ty e (.int kk (min a b)) :=
  fun tm w pos aft h => by
    have : (if b < a then b else a) = min a b := by rw [Int.min_def]; split <;> split <;> omega
    simp [execOp, resolve, invoke, builtin, Builtin.min_, Builtin.min2, ev_sound h hx, ev_sound h hy, this]
theorem XO_gT {op : Op} {d : Option Nat} {j t : Nat} {want : Bool} (hj : (all[j]?).bind (·.dst) = some t := by rfl) (ht : e.get t = some (.bool want) := by rfl)
    (hk : XO ⟨P, w0, n, Q⟩ all k (⟨d, op, ty, pos, aft, none⟩ :: rest) e L) : XO ⟨P, w0, n, Q⟩ all k (⟨d, op, ty, pos, aft, some (j, want)⟩ :: rest) e L := by
  intro tm w h1 h2 h3
  have hyi := yielded_of (all := all) hj (h2 t _ ht)
  have := hk tm w h1 h2 h3
  unfold wpList at this ⊢
  rw [if_pos (show Region.wanted _ _ = true from rfl)] at this
  rw [if_pos (show Region.wanted _ _ = true by simp [Region.wanted, hyi])]
  exact this
theorem XO_gF {op : Op} {j t : Nat} {want b : Bool} (hj : (all[j]?).bind (·.dst) = some t := by rfl) (ht : e.get t = some (.bool b) := by rfl) (hb : b = !want := by rfl) (hd : d < n := by exact Nat.le_of_ble_eq_true rfl)
    (hk : XO ⟨P, w0, n, Q⟩ all k rest ((d, undef) :: e) L) : XO ⟨P, w0, n, Q⟩ all k (⟨some d, op, ty, pos, aft, some (j, want)⟩ :: rest) e L := by
  intro tm w h1 h2 h3
  have hyi := yielded_of (all := all) hj (h2 t _ ht)
  unfold wpList
  rw [if_neg (show ¬ Region.wanted _ _ = true by cases want <;> simp_all [Region.wanted])]
  exact hk _ w (by simp [h1]) (h2.put (by rw [h1]; exact hd)) h3
theorem XO_reval (t : Nat) {v : Value} (v' : Value) (ht : e.get t = some v := by rfl) (hv : v = v') (hk : XO ⟨P, w0, n, Q⟩ all k rest ((t, v') :: e) L) : XO ⟨P, w0, n, Q⟩ all k rest e L := by
  subst hv
  intro tm w h1 h2 h3
  refine hk tm w h1 (fun s u hs => ?_) h3
  simp only [Env.get, List.lookup] at hs
  by_cases e1 : s = t
  · subst e1; simp at hs; subst hs; exact h2 _ _ ht
  · have : (s == t) = false := by simpa using e1
    rw [this] at hs; exact h2 s u hs
theorem XO_split {t : Nat} {b : Bool} (ht : e.get t = some (.bool b) := by rfl) (hT : b = true → XO ⟨P, w0, n, Q⟩ all k rest ((t, .bool true) :: e) L) (hF : b = false → XO ⟨P, w0, n, Q⟩ all k rest ((t, .bool false) :: e) L) : XO ⟨P, w0, n, Q⟩ all k rest e L := by
  cases b with
  | true => exact XO_reval t _ ht rfl (hT rfl)
  | false => exact XO_reval t _ ht rfl (hF rfl)
theorem XO_known {op : Op} {d : Option Nat} {j t : Nat} {want b : Bool} (v : Bool) (hj : (all[j]?).bind (·.dst) = some t := by rfl) (ht : e.get t = some (.bool b) := by rfl) (hb : b = v)
    (hk : XO ⟨P, w0, n, Q⟩ all k (⟨d, op, ty, pos, aft, some (j, want)⟩ :: rest) ((t, .bool v) :: e) L) : XO ⟨P, w0, n, Q⟩ all k (⟨d, op, ty, pos, aft, some (j, want)⟩ :: rest) e L :=
  XO_reval t _ ht (congrArg Value.bool hb) hk
theorem XO_either {op : Op} {d : Option Nat} {j t : Nat} {want b : Bool} (hj : (all[j]?).bind (·.dst) = some t := by rfl) (ht : e.get t = some (.bool b) := by rfl)
    (hT : b = true → XO ⟨P, w0, n, Q⟩ all k (⟨d, op, ty, pos, aft, some (j, want)⟩ :: rest) ((t, .bool true) :: e) L) (hF : b = false → XO ⟨P, w0, n, Q⟩ all k (⟨d, op, ty, pos, aft, some (j, want)⟩ :: rest) ((t, .bool false) :: e) L) :
    XO ⟨P, w0, n, Q⟩ all k (⟨d, op, ty, pos, aft, some (j, want)⟩ :: rest) e L := XO_split ht hT hF
theorem dv_call {g : Operand} {as : Array Operand} {ts : Array TypeId} {fn : FuncId} {fst cap : Array Value} {vs args : List Value} {pre R : List HP} {post : Value → List HP → Prop}
    (hs : Spec P fn args pre post) (hg : ev e g = some (.func (.func fn) fst cap) := by rfl) (has : evl e as.toList = some vs := by rfl) (hargs : fst.toList ++ vs ++ cap.toList = args := by rfl) (hf : FindAll L pre R := by repeat (first | exact FindAll.nil | exact Find.here | apply Find.there | apply FindAll.cons)) :
    DV P w0 (.call ⟨.value g, as, ts⟩) ty e L (fun v L' => ∃ L1, post v L1 ∧ L' = L1 ++ R) := by
  intro tm w pos aft d K Q h2 h3 hK
  unfold Oper.wp
  have hargs' : as.map (Act.mk tm []).eval = vs.toArray := by
    have := evl_sound (ds := []) h2 has
    rw [← this]; exact Array.ext' (by simp)
  have hrun : (execOp (Act.mk tm []).eval ⟨d, .call ⟨.value g, as, ts⟩, ty, pos, aft, none⟩).run P w = .ok (.enter fn args.toArray) w := by
    simp only [execOp, resolve, Deferred.ofValue, ev_sound h2 hg, hargs', invoke, Sem.run_bind, Sem.run_pure, Result.andThen_ok, hs.1 _ w]
    rw [← hargs]; exact congrArg (fun a => Result.ok (Next.enter fn a) w) (Array.ext' (by simp))
  rw [hrun, Oper.upon_enter]
  refine (hs.2 w0 w R (h3.findAll hf)).mono ?_
  rintro _ w' ⟨v, L', rfl, hp, hsat⟩
  exact hK v w' _ ⟨L', hp, rfl⟩ hsat
theorem XO_call {g : Operand} {as : Array Operand} {ts : Array TypeId} {fn : FuncId} {fst cap : Array Value} {vs args : List Value} {pre R : List HP} {post : Value → List HP → Prop}
    (hs : Spec P fn args pre post) (hg : ev e g = some (.func (.func fn) fst cap) := by rfl) (has : evl e as.toList = some vs := by rfl) (hargs : fst.toList ++ vs ++ cap.toList = args := by rfl) (hf : FindAll L pre R := by repeat (first | exact FindAll.nil | exact Find.here | apply Find.there | apply FindAll.cons)) (hd : d < n := by exact Nat.le_of_ble_eq_true rfl)
    (hk : ∀ v L', post v L' → XO ⟨P, w0, n, Q⟩ all k rest ((d, v) :: e) (L' ++ R)) : XO ⟨P, w0, n, Q⟩ all k (⟨some d, .call ⟨.value g, as, ts⟩, ty, pos, aft, none⟩ :: rest) e L :=
  XO_dv (dv_call hs hg has hargs hf) hd (by rintro v _ ⟨L1, hp, rfl⟩; exact hk v L1 hp)
theorem ZT {op : Op} {d : Option Nat} {j t : Nat} {want : Bool} (hk : XO ⟨P, w0, n, Q⟩ all k (⟨d, op, ty, pos, aft, none⟩ :: rest) e L) (hj : (all[j]?).bind (·.dst) = some t := by rfl) (ht : e.get t = some (.bool want) := by rfl) : XO ⟨P, w0, n, Q⟩ all k (⟨d, op, ty, pos, aft, some (j, want)⟩ :: rest) e L := XO_gT hj ht hk
theorem ZF {op : Op} {j t : Nat} {want b : Bool} (hk : XO ⟨P, w0, n, Q⟩ all k rest ((d, undef) :: e) L) (hj : (all[j]?).bind (·.dst) = some t := by rfl) (ht : e.get t = some (.bool b) := by rfl) (hb : b = !want := by rfl) (hd : d < n := by exact Nat.le_of_ble_eq_true rfl) : XO ⟨P, w0, n, Q⟩ all k (⟨some d, op, ty, pos, aft, some (j, want)⟩ :: rest) e L := XO_gF hj ht hb hd hk
end
end Go.Proofs.YtamecmklcnohjaaGreat.Sep
namespace Go.Proofs.YtamecmklcnohjaaGreat.Sep
open Go.RowKit
set_option linter.unusedSimpArgs false
set_option linter.unusedVariables false

structure E (α : Type) where
  sz : Nat
  agg : Bool
  cells : α → List Value
  len : ∀ x, (cells x).length = sz
  one : ∀ x v, v ∈ cells x → v.oneCell' = true
  pos : 0 < sz
  sole : agg = false → sz = 1
def E.val {α : Type} (e : E α) (x : α) : Value := if e.agg then .agg (e.cells x).toArray else (e.cells x).headD undef
def eI (k : IntKind) : E Int := ⟨1, false, fun n => [.int k n], fun _ => rfl, fun _ _ h => by simp at h; subst h; rfl, by decide, fun _ => rfl⟩
def eB : E Bool := ⟨1, false, fun b => [.bool b], fun _ => rfl, fun _ _ h => by simp at h; subst h; rfl, by decide, fun _ => rfl⟩
theorem E.val_cells {α : Type} (e : E α) (x : α) : (e.val x).cells = (e.cells x).toArray := by
  unfold E.val
  cases h : e.agg
  · have h1 := e.len x
    rw [e.sole h] at h1
    obtain ⟨v, hv⟩ := List.length_eq_one_iff.1 h1
    have := e.one x v (by rw [hv]; simp)
    rw [hv]
    cases v <;> first | rfl | (simp [Value.oneCell'] at this)
  · rfl
def flat {α : Type} (e : E α) (xs : List α) : List Value := xs.flatMap e.cells
section
variable {α : Type} (e : E α)
@[simp] theorem flat_nil : flat e ([] : List α) = [] := rfl
@[simp] theorem flat_cons (x : α) (xs : List α) : flat e (x :: xs) = e.cells x ++ flat e xs := rfl
theorem flat_append (xs ys : List α) : flat e (xs ++ ys) = flat e xs ++ flat e ys := by simp [flat]
theorem flat_length (xs : List α) : (flat e xs).length = xs.length * e.sz := by
  induction xs with
  | nil => simp
  | cons x xs ih => simp [ih, e.len, Nat.add_mul, Nat.add_comm]
theorem flat_get : ∀ {xs : List α} {i j : Nat} {x : α}, xs[i]? = some x → j < e.sz → (flat e xs)[i * e.sz + j]? = (e.cells x)[j]? := by
  intro xs
  induction xs with
  | nil => intro i j x h; simp at h
  | cons y xs ih =>
    intro i j x h hj
    cases i with
    | zero =>
      simp at h; subst h
      rw [flat_cons, Nat.zero_mul, Nat.zero_add, List.getElem?_append_left (by rw [e.len]; exact hj)]
    | succ i =>
      simp at h
      have : (i + 1) * e.sz + j = e.sz + (i * e.sz + j) := by rw [Nat.add_mul]; omega
      rw [flat_cons, this, List.getElem?_append_right (by rw [e.len]; omega), e.len, Nat.add_sub_cancel_left]
      exact ih h hj
theorem flat_one (xs : List α) : ∀ v ∈ flat e xs, v.oneCell' = true := by
  intro v hv
  obtain ⟨x, _, h⟩ := List.mem_flatMap.1 hv
  exact e.one x v h
theorem flat_set : ∀ (xs : List α) (i : Nat) (y : α), i < xs.length → flat e (xs.set i y) = (flat e xs).take (i * e.sz) ++ e.cells y ++ (flat e xs).drop (i * e.sz + e.sz) := by
  intro xs
  induction xs with
  | nil => intro i y h; simp at h
  | cons x xs ih =>
    intro i y h
    cases i with
    | zero => simp [List.drop_append, e.len]
    | succ i =>
      have h1 := ih i y (by simpa using h)
      have h2 : (i + 1) * e.sz = e.sz + i * e.sz := by rw [Nat.add_mul]; omega
      rw [List.set_cons_succ, flat_cons, h1, flat_cons, h2]
      rw [List.take_append, List.drop_append, e.len]
      rw [List.take_of_length_le (l := e.cells x) (by rw [e.len]; omega), List.drop_of_length_le (l := e.cells x) (by rw [e.len]; omega)]
      rw [show e.sz + i * e.sz - e.sz = i * e.sz from by omega, show e.sz + i * e.sz + e.sz - e.sz = i * e.sz + e.sz from by omega]
      simp [List.append_assoc]
end
def Sl {α : Type} (e : E α) (a : Option Addr) (c : Nat) (xs : List α) : HP := fun H =>
  match a with
  | none => xs = [] ∧ c = 0
  | some ad => xs.length ≤ c ∧ ad.spot = none ∧ ∃ row T, H ad.block = some (.cells row T (0, 0)) ∧ ∃ pre post, row.toList = pre ++ flat e xs ++ post ∧ pre.length = ad.off ∧ (c - xs.length) * e.sz ≤ post.length
def View {α : Type} (A : HP) (e : E α) (a : Option Addr) (xs : List α) : Prop :=
  ∀ H, A H → xs = [] ∨ ∃ ad, a = some ad ∧ ad.spot = none ∧ ∃ row T fr, H ad.block = some (.cells row T fr) ∧ ∀ j v, (flat e xs)[j]? = some v → row[ad.off + j]? = some v
theorem Sl.view {α : Type} {e : E α} {a : Option Addr} {c : Nat} {xs : List α} : View (Sl e a c xs) e a xs := by
  intro H h
  cases a with
  | none => exact .inl h.1
  | some ad =>
    obtain ⟨hc, hs, row, T, hb, pre, post, hr, hp, hq⟩ := h
    refine .inr ⟨ad, rfl, hs, row, T, (0, 0), hb, fun j v hj => ?_⟩
    have hlt : j < (flat e xs).length := (List.getElem?_eq_some_iff.1 hj).1
    rw [← Array.getElem?_toList, hr, List.append_assoc, List.getElem?_append_right (by omega), hp, Nat.add_sub_cancel_left, List.getElem?_append_left hlt]
    exact hj
section
variable {P : Program} {w0 : World} {n : Nat} {Q : Exit → Act → World → Prop} {k : List KI} {e : Env} {L R : List HP} {all : Array Oper} {rest : List Oper} {ty : TypeId} {pos : String} {aft : Array Edge} {d : Nat}
variable {α : Type} {E' : E α}
theorem XO_slopen {a : Option Addr} {c : Nat} {xs : List α} (hf : Find L (Sl E' a c xs) R) (hp : 0 < xs.length) (h : ∀ b o, a = some ⟨b, o, none⟩ → XO ⟨P, w0, n, Q⟩ all k rest e L) : XO ⟨P, w0, n, Q⟩ all k rest e L := by
  unfold XO at *
  intro tm w h1 h2 h3
  obtain ⟨H1, hA, _⟩ := (h3.find hf).atom
  cases a with
  | none => obtain ⟨rfl, _⟩ := hA; simp at hp
  | some ad =>
    obtain ⟨b, o, sp⟩ := ad
    obtain ⟨_, hs, _⟩ := hA
    simp only at hs
    subst hs
    exact h b o rfl tm w h1 h2 h3
theorem X_slopen {k : List KI} {code : Code} {e : Env} {a : Option Addr} {c : Nat} {xs : List α} (hf : Find L (Sl E' a c xs) R) (hp : 0 < xs.length) (h : ∀ b o, a = some ⟨b, o, none⟩ → X ⟨P, w0, n, Q⟩ k code e L) : X ⟨P, w0, n, Q⟩ k code e L := by
  unfold X at *
  intro tm w h1 h2 h3
  obtain ⟨H1, hA, _⟩ := (h3.find hf).atom
  cases a with
  | none => obtain ⟨rfl, _⟩ := hA; simp at hp
  | some ad =>
    obtain ⟨b, o, sp⟩ := ad
    obtain ⟨_, hs, _⟩ := hA
    simp only at hs
    subst hs
    exact h b o rfl tm w h1 h2 h3
theorem pv_index {T el s by' : Nat} {x i : Operand} {z : Value} {b o m c : Nat} {kk : IntKind} {iv : Int} [hu : TU P T (.slice el)] [hi : TI P el z s by'] (hx : ev e x = some (.slice (some ⟨b, o, none⟩) m c) := by rfl) (hiv : ev e i = some (.int kk iv) := by rfl)
    (h0 : 0 ≤ iv := by omega) (h1 : iv < (m : Int) := by omega) : PV P (.indexAddr T x i) ty e (.pointer (some ⟨b, o + iv.toNat * s, none⟩)) :=
  fun tm w pos aft h => by
    have h2 : (underlying T).run P w = .ok (.slice el) w := run_und hu.out
    have h3 : (Addr.mk b o none).add (iv.toNat * s) = ⟨b, o + iv.toNat * s, none⟩ := by unfold Addr.add; split <;> simp_all
    simp [execOp, Instr.indexAt, ev_sound h hx, ev_sound h hiv, asIntOf, h2, h0, h1, run_size hi, h3]
theorem run_loadAt1 {w : World} {T : TypeId} {dd : TypeDesc} (hu : P.underlying T = some dd) (hg : aggD dd = false) {b o : Nat} {v : Value} (hc : w.cell? ⟨b, o, none⟩ = some v) : (Instr.loadAt T (.pointer (some ⟨b, o, none⟩))).run P w = .ok v w := by
  simp [Instr.loadAt, Instr.sureAddr, loadVar, run_isAgg hu, hg, hc]
theorem run_loadAtA {w : World} {T : TypeId} {dd : TypeDesc} {z : Value} {s by' : Nat} (hu : P.underlying T = some dd) (hg : aggD dd = true) (hi : TI P T z s by') {b o : Nat} {vs : List Value} (hl : vs.length = s) (hc : ∀ j v, vs[j]? = some v → w.cell? ⟨b, o + j, none⟩ = some v) :
    (Instr.loadAt T (.pointer (some ⟨b, o, none⟩))).run P w = .ok (.agg vs.toArray) w := by
  have h1 := run_loadCells_list (P := P) w ⟨b, o, none⟩ vs (fun j v h => by rw [show (⟨b, o, none⟩ : Addr).add j = ⟨b, o + j, none⟩ from by unfold Addr.add; split <;> simp_all]; exact hc j v h)
  simp [Instr.loadAt, Instr.sureAddr, loadVar, run_isAgg hu, hg, run_size hi, ← hl, h1]
def Holds (A : HP) (b o : Nat) (vs : List Value) : Prop := ∀ H, A H → ∃ row T fr, H b = some (.cells row T fr) ∧ ∀ j v, vs[j]? = some v → row[o + j]? = some v
theorem Holds.cell {A : HP} {b o : Nat} {vs : List Value} (h : Holds A b o vs) {w : World} (hs : Sat w0 w (A :: L)) : ∀ j v, vs[j]? = some v → w.cell? ⟨b, o + j, none⟩ = some v := by
  intro j v hv
  obtain ⟨H1, hA, hle⟩ := hs.atom
  obtain ⟨row, T, fr, hb, hr⟩ := h H1 hA
  have := hle b _ hb
  simp [World.cell?, this, hr j v hv]
theorem holds_pt {b o : Nat} {row : List Value} {T : TypeId} {fr : Nat × Nat} {vs : List Value} (h : (row.drop o).take vs.length = vs) : Holds (pt b (.cells row.toArray T fr)) b o vs := by
  intro H hH
  unfold pt at hH
  refine ⟨row.toArray, T, fr, hH, fun j v hj => ?_⟩
  have hlt : j < vs.length := (List.getElem?_eq_some_iff.1 hj).1
  rw [← h, List.getElem?_take_of_lt hlt, List.getElem?_drop] at hj
  simpa using hj
theorem holds_sl {b o c i f : Nat} {xs : List α} {x : α} {vs : List Value} (hx : xs[i]? = some x) (h : ((E'.cells x).drop f).take vs.length = vs) (hv : f + vs.length ≤ E'.sz) : Holds (Sl E' (some ⟨b, o, none⟩) c xs) b (o + i * E'.sz + f) vs := by
  intro H hH
  rcases Sl.view H hH with rfl | ⟨ad, had, _, row, T, fr, hb, hr⟩
  · simp at hx
  obtain rfl : (⟨b, o, none⟩ : Addr) = ad := Option.some.inj had
  refine ⟨row, T, fr, hb, fun j v hj => ?_⟩
  have hlt : j < vs.length := (List.getElem?_eq_some_iff.1 hj).1
  have h2 := flat_get E' hx (j := f + j) (by omega)
  have := hr (i * E'.sz + (f + j)) v (by
    rw [h2, ← List.getElem?_drop, ← List.getElem?_take_of_lt hlt, h]; exact hj)
  rw [show o + i * E'.sz + f + j = o + (i * E'.sz + (f + j)) by omega]
  exact this
theorem rv_load1 {T : TypeId} {x : Operand} {A : HP} {b o : Nat} {v : Value} {dd : TypeDesc} [hu : TU P T dd] (hg : aggD dd = false) (hf : Find L A R) (hx : ev e x = some (.pointer (some ⟨b, o, none⟩))) (hh : Holds A b o [v]) : RV P w0 (.load T x) ty e L v :=
  fun tm w pos aft h2 h3 => by
    have : w.cell? ⟨b, o, none⟩ = some v := hh.cell (h3.find hf) 0 v rfl
    simp [execOp, ev_sound h2 hx, run_loadAt1 hu.out hg this]
theorem rv_loadA {T : TypeId} {x : Operand} {A : HP} {b o : Nat} {vs : List Value} {dd : TypeDesc} {z : Value} {s by' : Nat} [hu : TU P T dd] [hi : TI P T z s by'] (hg : aggD dd = true) (hf : Find L A R) (hx : ev e x = some (.pointer (some ⟨b, o, none⟩))) (hl : vs.length = s) (hh : Holds A b o vs) : RV P w0 (.load T x) ty e L (.agg vs.toArray) :=
  fun tm w pos aft h2 h3 => by
    have := hh.cell (h3.find hf)
    simp [execOp, ev_sound h2 hx, run_loadAtA hu.out hg hi hl this]
theorem rv_load {T : TypeId} {x : Operand} {b o : Nat} {row : List Value} {T' : TypeId} {fr : Nat × Nat} {v : Value} {dd : TypeDesc} [hu : TU P T dd] (hx : ev e x = some (.pointer (some ⟨b, o, none⟩)) := by rfl) (hg : aggD dd = false := by rfl)
    (hf : Find L (pt b (.cells row.toArray T' fr)) R := by repeat (first | exact Find.here | apply Find.there)) (hv : row[o]? = some v := by rfl) : RV P w0 (.load T x) ty e L v := by
  refine rv_load1 hg hf hx (holds_pt ?_)
  have hlt : o < row.length := (List.getElem?_eq_some_iff.1 hv).1
  rw [List.drop_eq_getElem_cons hlt]
  simp [List.getElem?_eq_some_iff.1 hv |>.2]
theorem rv_loadS {T : TypeId} {x : Operand} {b o : Nat} {row vs : List Value} {T' : TypeId} {fr : Nat × Nat} {dd : TypeDesc} {z : Value} {s by' : Nat} [hu : TU P T dd] [hi : TI P T z s by'] (hx : ev e x = some (.pointer (some ⟨b, o, none⟩)) := by rfl) (hg : aggD dd = true := by rfl)
    (hf : Find L (pt b (.cells row.toArray T' fr)) R := by repeat (first | exact Find.here | apply Find.there)) (hv : (row.drop o).take s = vs := by rfl) (hl : vs.length = s := by rfl) : RV P w0 (.load T x) ty e L (.agg vs.toArray) :=
  rv_loadA hg hf hx hl (holds_pt (by rw [hl]; exact hv))
theorem rv_loadW {T : TypeId} {x : Operand} {b : Nat} {row : List Value} {T' : TypeId} {fr : Nat × Nat} {dd : TypeDesc} {z : Value} {s by' : Nat} [hu : TU P T dd] [hi : TI P T z s by'] (hx : ev e x = some (.pointer (some ⟨b, 0, none⟩)) := by rfl) (hg : aggD dd = true := by rfl)
    (hf : Find L (pt b (.cells row.toArray T' fr)) R := by repeat (first | exact Find.here | apply Find.there)) (hl : row.length = s := by rfl) : RV P w0 (.load T x) ty e L (.agg row.toArray) :=
  rv_loadA hg hf hx hl (holds_pt (by simp))
theorem rv_el {T : TypeId} {x : Operand} {b o c i s : Nat} {xs : List α} {dd : TypeDesc} {z : Value} {s' by' : Nat} [hu : TU P T dd] [hi : TI P T z s' by'] (hf : Find L (Sl E' (some ⟨b, o, none⟩) c xs) R := by repeat (first | exact Find.here | apply Find.there)) (hx : ev e x = some (.pointer (some ⟨b, o + i * s, none⟩)) := by rfl)
    (hg : aggD dd = E'.agg := by rfl) (hs : E'.sz = s := by rfl) (hs' : s' = s := by rfl) (hl : i < xs.length := by omega) : RV P w0 (.load T x) ty e L (E'.val xs[i]) := by
  subst hs hs'
  have hget : xs[i]? = some xs[i] := by simp [hl]
  have hh := holds_sl (E' := E') (b := b) (o := o) (c := c) (f := 0) (vs := E'.cells xs[i]) hget (by simp) (by rw [E'.len]; omega)
  rw [Nat.add_zero] at hh
  cases hag : E'.agg
  · rw [hag] at hg
    have h1 := E'.len xs[i]
    rw [E'.sole hag] at h1
    obtain ⟨v, hv⟩ := List.length_eq_one_iff.1 h1
    rw [hv] at hh
    have : E'.val xs[i] = v := by unfold E.val; rw [hag, hv]; rfl
    rw [this]
    exact rv_load1 hg hf hx hh
  · rw [hag] at hg
    have : E'.val xs[i] = .agg (E'.cells xs[i]).toArray := by unfold E.val; rw [hag]; rfl
    rw [this]
    exact rv_loadA (vs := E'.cells xs[i]) hg hf hx (E'.len _) hh
theorem rv_elf {T : TypeId} {x : Operand} {b o c i s f : Nat} {xs : List α} {v : Value} {dd : TypeDesc} [hu : TU P T dd] (hf : Find L (Sl E' (some ⟨b, o, none⟩) c xs) R := by repeat (first | exact Find.here | apply Find.there)) (hx : ev e x = some (.pointer (some ⟨b, o + i * s + f, none⟩)) := by rfl)
    (hg : aggD dd = false := by rfl) (hs : E'.sz = s := by rfl) (hl : i < xs.length := by omega) (hv : (E'.cells xs[i])[f]? = some v := by rfl) : RV P w0 (.load T x) ty e L v := by
  subst hs
  have hget : xs[i]? = some xs[i] := by simp [hl]
  have hlt : f < (E'.cells xs[i]).length := (List.getElem?_eq_some_iff.1 hv).1
  refine rv_load1 hg hf hx (holds_sl (f := f) (vs := [v]) hget ?_ (by rw [E'.len] at hlt; simp; omega))
  rw [List.drop_eq_getElem_cons hlt]
  simp [List.getElem?_eq_some_iff.1 hv |>.2]
theorem pv_field {s f : Nat} {x : Operand} {b o o' : Nat} {fl : List Field} {nm tag pkg : String} {ft fo bo : Nat} {emb : Bool} {z : Value} {sz by' : Nat} [hu : TU P s (.struct fl.toArray)] (hfd : fl[f]? = some ⟨nm, ft, fo, emb, tag, pkg, bo⟩ := by rfl) (hi : TI P ft z sz by' := by infer_instance) (hsz : (sz == 0) = false := by rfl)
    (hx : ev e x = some (.pointer (some ⟨b, o, none⟩)) := by rfl) (ho : o + fo = o' := by first | exact Nat.zero_add _ | exact Nat.add_zero _ | rfl) : PV P (.fieldAddr s x f) ty e (.pointer (some ⟨b, o', none⟩)) := fun tm w pos aft h => by
  have h2 : (underlying s).run P w = .ok (.struct fl.toArray) w := run_und hu.out
  have h3 : (Addr.mk b o none).add fo = ⟨b, o', none⟩ := by unfold Addr.add; split <;> simp_all
  have h4 : sz ≠ 0 := by simpa using hsz
  have h5 : fl.toArray[f]? = some ⟨nm, ft, fo, emb, tag, pkg, bo⟩ := by simpa using hfd
  simp [execOp, Instr.fieldAt, ev_sound h hx, Instr.sureAddr, h2, h5, fieldPlace, run_size hi, h4, h3]
end
end Go.Proofs.YtamecmklcnohjaaGreat.Sep
namespace Go.Proofs.YtamecmklcnohjaaGreat.Sep
open Go.RowKit
set_option linter.unusedSimpArgs false
set_option linter.unusedVariables false

theorem foldl_set_list : ∀ (l : List Value) (off i : Nat) (cells : List Value), off + i + l.length ≤ cells.length →
    (l.zipIdx i).foldl (fun cs (p : Value × Nat) => cs.set (off + p.2) p.1) cells = cells.take (off + i) ++ l ++ cells.drop (off + i + l.length) := by
  intro l
  induction l with
  | nil => intro off i cells h; simp
  | cons v l ih =>
    intro off i cells h
    simp only [List.length_cons] at h
    rw [List.zipIdx_cons, List.foldl_cons, ih off (i + 1) _ (by simp; omega)]
    have h1 : off + (i + 1) = (off + i) + 1 := by omega
    rw [h1, List.take_set, List.drop_set_of_lt (by omega)]
    have h2 : (cells.take (off + i + 1)).set (off + i) v = cells.take (off + i) ++ [v] := by
      rw [List.take_succ_eq_append_getElem (by omega), List.set_append_right _ _ (by simp; omega)]
      simp [show min (off + i) cells.length = off + i from by omega]
    rw [h2, show off + i + 1 + l.length = off + i + (l.length + 1) from by omega]
    simp [List.append_assoc]
theorem foldl_set_arr (vs cells : Array Value) (off : Nat) (h : off + vs.size ≤ cells.size) :
    vs.zipIdx.foldl (fun cs (p : Value × Nat) => cs.setIfInBounds (off + p.2) p.1) cells = (cells.toList.take off ++ vs.toList ++ cells.toList.drop (off + vs.size)).toArray := by
  have key : ∀ (l : List (Value × Nat)) (cs : Array Value), l.foldl (fun cs (p : Value × Nat) => cs.setIfInBounds (off + p.2) p.1) cs = (l.foldl (fun cs (p : Value × Nat) => cs.set (off + p.2) p.1) cs.toList).toArray := by
    intro l
    induction l with
    | nil => intro cs; simp
    | cons p l ih => intro cs; simp [ih]
  rw [← Array.foldl_toList, key, Array.toList_zipIdx, foldl_set_list _ off 0 _ (by simpa using h)]
  simp
theorem fill_seq (s : Nat) : ∀ (vs : List Value) (k : Nat) (cells : Array Value), (∀ v ∈ vs, v.cells.size = s) → (k + vs.length) * s ≤ cells.size →
    Instr.fill (fun i => some (i * s, s)) cells ((List.range' k vs.length).zip vs) = some (cells.toList.take (k * s) ++ vs.flatMap (·.cells.toList) ++ cells.toList.drop ((k + vs.length) * s)).toArray := by
  intro vs
  induction vs with
  | nil => intro k cells _ _; simp [Instr.fill]
  | cons v vs ih =>
    intro k cells hv hl
    have h1 := hv v (by simp)
    simp only [List.length_cons] at hl
    have e1 : (k + (vs.length + 1)) * s = k * s + s + vs.length * s := by rw [Nat.add_mul, Nat.add_mul]; omega
    rw [List.length_cons, List.range'_succ, List.zip_cons_cons]
    simp only [Instr.fill, h1]
    rw [if_neg (by simp; omega)]
    have hfs := foldl_set_arr v.cells cells (k * s) (by rw [h1]; omega)
    rw [h1] at hfs
    rw [hfs, ih (k + 1) _ (fun u hu => hv u (by simp [hu])) (by
      have : (k + 1 + vs.length) * s = k * s + s + vs.length * s := by rw [Nat.add_mul, Nat.add_mul]; omega
      simp [h1]; omega)]
    congr 1
    apply Array.ext'
    have e2 : (k + 1) * s = k * s + s := by rw [Nat.add_mul]; omega
    have e3 : (k + 1 + vs.length) * s = k * s + s + vs.length * s := by rw [Nat.add_mul, Nat.add_mul]; omega
    have e4 : (cells.toList.take (k * s) ++ v.cells.toList).length = k * s + s := by simp [h1]; omega
    simp only [List.flatMap_cons]
    rw [e2, e3, e1, List.take_left' e4, ← List.drop_drop (i := vs.length * s) (j := k * s + s), List.drop_left' e4, List.drop_drop]
    simp [List.append_assoc]
section
variable {P : Program} {w0 : World} {n : Nat} {Q : Exit → Act → World → Prop} {k : List KI} {e : Env} {L R : List HP} {all : Array Oper} {rest : List Oper} {ty : TypeId} {pos : String} {aft : Array Edge} {d : Nat}
variable {α : Type} {E' : E α}
theorem sat_newSl {w : World} {xs : List α} {T : TypeId} {row : Array Value} (h3 : Sat w0 w L) (hr : row.toList = flat E' xs) : Sat w0 (w.alloc (.cells row T)) (Sl E' (some ⟨w.heap.size, 0, none⟩) xs.length xs :: L) :=
  (h3.alloc (o := .cells row T)).map fun _ => SL.head fun H hH => ⟨Nat.le_refl _, rfl, row, T, hH, [], [], by simp [hr], rfl, by simp⟩
theorem dv_lit {T el len s by' : Nat} {parts : Array (Nat × Operand)} {z : Value} {vs : List Value} [hu : TU P T (.slice el)] [hi : TI P el z s by'] (xs : List α) (hp : parts.toList.map (·.1) = List.range' 0 len := by rfl)
    (hv : evl e (parts.toList.map (·.2)) = some vs := by rfl) (hx : vs = xs.map E'.val := by rfl) (hs : E'.sz = s := by rfl) (hz : z.cells.size = s := by rfl) (hlen : xs.length = len := by rfl) (hb : len * s ≤ 16777216 := by exact Nat.le_of_ble_eq_true rfl) :
    DV P w0 (.buildSlice T len parts) ty e L (fun v' L' => ∃ b, v' = .slice (some ⟨b, 0, none⟩) xs.length xs.length ∧ L' = Sl E' (some ⟨b, 0, none⟩) xs.length xs :: L) := by
  refine dv_of_run ?_
  intro tm w pos aft h2 h3
  have hparts : parts.toList.map (fun x => (x.fst, (Act.mk tm []).eval x.snd)) = (List.range' 0 vs.length).zip vs := by
    have h4 := evl_sound (ds := []) h2 hv
    have hl : vs.length = len := by rw [hx, List.length_map, hlen]
    rw [hl, ← hp, ← h4]
    generalize parts.toList = l
    induction l with
    | nil => rfl
    | cons p l ih => simp [ih]
  have hcs : ∀ v ∈ vs, v.cells.size = s := by
    rw [hx]; intro v hv
    obtain ⟨x, _, rfl⟩ := List.mem_map.1 hv
    rw [E.val_cells]; simp [E'.len, hs]
  have hl : vs.length = len := by rw [hx, List.length_map, hlen]
  have hflat : vs.flatMap (·.cells.toList) = flat E' xs := by
    rw [hx]; unfold flat
    rw [List.flatMap_map]
    congr 1; funext x; rw [E.val_cells]
  have hsz : (flat E' xs).length = len * s := by rw [flat_length, hs, hlen]
  have hfill : ∀ cells : Array Value, cells.size = len * s → Instr.fill (fun i => some (i * s, s)) cells ((List.range' 0 vs.length).zip vs) = some (flat E' xs).toArray := by
    intro cells hc
    rw [fill_seq s vs 0 cells hcs (by rw [hl, hc, Nat.zero_add]; exact Nat.le_refl _), hflat]
    congr 1
    apply Array.ext'
    simp only [Nat.zero_mul, List.take_zero, List.nil_append, hl, Nat.zero_add]
    rw [List.drop_of_length_le (by simp [hc]), List.append_nil]
  refine ⟨_, w.alloc (.cells (flat E' xs).toArray el), _, ?_, ⟨w.heap.size, rfl, rfl⟩, sat_newSl h3 (by simp)⟩
  have hus : (underlying T).run P w = .ok (.slice el) w := run_und hu.out
  have hb' : ¬ 16777216 < len * s := by omega
  by_cases h0 : len * s = 0
  · have := hfill (Array.map (fun _ => default) (Array.range 0)) (by simp [h0])
    simp [execOp, Instr.buildSlice, hus, run_size hi, h0, hparts, newRow, this, hlen]
  · have := hfill ((Array.range (len * s)).map (z.cells[· % z.cells.size]!)) (by simp)
    simp only [execOp, Instr.buildSlice, Sem.run_bind, hus, Result.andThen_ok, run_size hi]
    rw [if_neg hb']
    simp only [Sem.run_bind, Sem.run_pure, Result.andThen_ok]
    rw [if_neg h0]
    simp only [Sem.run_bind, run_zero hi, Sem.run_pure, Result.andThen_ok]
    have hp2 : (Array.map (fun x : Nat × Operand => match x with | (i, x) => (i, (Act.mk tm []).eval x)) parts).toList = (List.range' 0 vs.length).zip vs := by rw [Array.toList_map]; exact hparts
    rw [hp2, this]
    simp [hlen, newRow]
theorem XO_lit {T el len s by' : Nat} {parts : Array (Nat × Operand)} {z : Value} {vs : List Value} [hu : TU P T (.slice el)] [hi : TI P el z s by'] (xs : List α) (hp : parts.toList.map (·.1) = List.range' 0 len := by rfl)
    (hv : evl e (parts.toList.map (·.2)) = some vs := by rfl) (hx : vs = xs.map E'.val := by rfl) (hs : E'.sz = s := by rfl) (hz : z.cells.size = s := by rfl) (hlen : xs.length = len := by rfl) (hb : len * s ≤ 16777216 := by exact Nat.le_of_ble_eq_true rfl) (hd : d < n := by exact Nat.le_of_ble_eq_true rfl)
    (hk : ∀ b, XO ⟨P, w0, n, Q⟩ all k rest ((d, .slice (some ⟨b, 0, none⟩) xs.length xs.length) :: e) (Sl E' (some ⟨b, 0, none⟩) xs.length xs :: L)) : XO ⟨P, w0, n, Q⟩ all k (⟨some d, .buildSlice T len parts, ty, pos, aft, none⟩ :: rest) e L :=
  XO_dv (dv_lit xs hp hv hx hs hz hlen hb) hd (by rintro _ _ ⟨b, rfl, rfl⟩; exact hk b)
theorem SL_nilSl {β : Type} (E' : E β) {L : List HP} {H : PH} (h : SL L H) : SL (Sl E' none 0 [] :: L) H :=
  ⟨fun _ => none, H, fun _ => .inl rfl, fun _ => by simp, ⟨rfl, rfl⟩, h⟩
end
end Go.Proofs.YtamecmklcnohjaaGreat.Sep
