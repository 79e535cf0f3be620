import Derived.Test.YtlhjiciimeefeaaLedB
import Derived.Test.YtlhjiciimeefeaaBump
namespace Go.Proofs.Ytlhjiciimeefeaa.Sep
open Go.RowKit
set_option linter.unusedSimpArgs false
set_option linter.unusedVariables false
/-! what a region would use -/
abbrev Part := Int × Int × Int × Int
structure Sh where
  parts : List Part
  larges : List (Int × Int)
  obj : Int
  pad : Int
def ePart : E Part := ⟨4, true, fun p => [.int .i64 p.1, .int .i64 p.2.1, .int .u64 p.2.2.1, .int .u64 p.2.2.2], fun _ => rfl, fun _ _ h => by simp at h; rcases h with rfl | rfl | rfl | rfl <;> rfl, by decide, fun h => by cases h⟩
def Shd (b : Nat) (s : Sh) : HP := fun H => ∃ x : Option Addr × Nat × Option Addr × Nat, SL [pt b (.cells [.slice x.1 s.parts.length x.2.1, .slice x.2.2.1 s.larges.length x.2.2.2, .int .u64 s.obj, .int .u64 s.pad].toArray 58 (0, 0)), Sl ePart x.1 x.2.1 s.parts, Sl eRun x.2.2.1 x.2.2.2 s.larges] H
theorem Shd.open {b : Nat} {s : Sh} : ∀ H, Shd b s H → ∃ x : Option Addr × Nat × Option Addr × Nat, True ∧ SL [pt b (.cells [.slice x.1 s.parts.length x.2.1, .slice x.2.2.1 s.larges.length x.2.2.2, .int .u64 s.obj, .int .u64 s.pad].toArray 58 (0, 0)), Sl ePart x.1 x.2.1 s.parts, Sl eRun x.2.2.1 x.2.2.2 s.larges] H := fun H ⟨x, h⟩ => ⟨x, trivial, h⟩
theorem Shd.fold {b c c' : Nat} {s : Sh} {a a' : Option Addr} : ∀ H, SL [pt b (.cells [.slice a s.parts.length c, .slice a' s.larges.length c', .int .u64 s.obj, .int .u64 s.pad].toArray 58 (0, 0)), Sl ePart a c s.parts, Sl eRun a' c' s.larges] H → Shd b s H := fun H h => ⟨(a, c, a', c'), h⟩
theorem SL_true {L : List HP} {H : PH} (h : SL L H) : SL (pur True :: L) H := ⟨fun _ => none, H, fun _ => .inl rfl, fun _ => by simp, trivial, h⟩
def lastP (l : List Part) : Part := l.getD (l.length - 1) (0, 0, 0, 0)
def setLast (l : List Part) (at_ : Int) : List Part := l.set (l.length - 1) ((lastP l).1, (lastP l).2.1, at_, (lastP l).2.2.2)
def topAt (s : Sh) : Int := (lastP s.parts).2.2.1
def topEnd (s : Sh) : Int := (lastP s.parts).2.2.2
def setTop (s : Sh) (at_ obj pad : Int) : Sh := ⟨setLast s.parts at_, s.larges, obj, pad⟩
theorem setLast_length (l : List Part) (a : Int) : (setLast l a).length = l.length := by simp [setLast]
theorem setLast_self (l : List Part) : setLast l (lastP l).2.2.1 = l := by
  unfold setLast
  cases l with
  | nil => rfl
  | cons x l =>
    have hl : (x :: l).length - 1 < (x :: l).length := by simp
    have : lastP (x :: l) = (x :: l)[(x :: l).length - 1] := by unfold lastP; simp only [List.getD, List.getElem?_eq_getElem hl, Option.getD_some]
    rw [show ((lastP (x :: l)).1, (lastP (x :: l)).2.1, (lastP (x :: l)).2.2.1, (lastP (x :: l)).2.2.2) = lastP (x :: l) from rfl, this]
    exact List.set_getElem_self hl
/-- A cursor that lies somewhere: it can be read, and stored. -/
structure Cur (P : Program) (b o : Nat) (en : Int) (A : Int → HP) : Prop where
  load : ∀ {w0 : World} {ty : TypeId} {e : Env} {L R : List HP} {x : Operand} {a : Int}, Find L (A a) R → ev e x = some (.pointer (some ⟨b, o, none⟩)) → RV P w0 (.load 71 x) ty e L (.agg #[.int .u64 a, .int .u64 en])
  load1 : ∀ {w0 : World} {ty : TypeId} {e : Env} {L R : List HP} {x : Operand} {a : Int}, Find L (A a) R → ev e x = some (.pointer (some ⟨b, o, none⟩)) → RV P w0 (.load 27 x) ty e L (.int .u64 a)
  store : ∀ {w0 : World} {ty : TypeId} {e : Env} {L R : List HP} {x y : Operand} {a a' : Int}, Find L (A a) R → ev e x = some (.pointer (some ⟨b, o, none⟩)) → ev e y = some (.agg #[.int .u64 a', .int .u64 en]) → DV P w0 (.store 71 x y) ty e L (fun _ L' => L' = A a' :: R)
  store1 : ∀ {w0 : World} {ty : TypeId} {e : Env} {L R : List HP} {x y : Operand} {a a' : Int}, Find L (A a) R → ev e x = some (.pointer (some ⟨b, o, none⟩)) → ev e y = some (.int .u64 a') → DV P w0 (.store 27 x y) ty e L (fun _ L' => L' = A a' :: R)
theorem Cur.cell (b : Nat) (en : Int) : Cur Try.prog b 0 en (fun a => pt b (.cells [.int .u64 a, .int .u64 en].toArray 71 (0, 0))) where
  load := fun hf hx => rv_loadW (hx := hx) (hf := hf)
  load1 := fun hf hx => rv_load (hx := hx) (hf := hf)
  store := fun hf hx hy => dv_storeW (hx := hx) (hy := hy) (hf := hf)
  store1 := fun hf hx hy => dv_store (hx := hx) (hy := hy) (hf := hf)
theorem Cur.part (b o c : Nat) (l : List Part) (hl : 0 < l.length) : Cur Try.prog b (o + (l.length - 1) * 4 + 2) (lastP l).2.2.2 (fun a => Sl ePart (some ⟨b, o, none⟩) c (setLast l a)) := by
  have hi : l.length - 1 < l.length := by omega
  have hg : ∀ a, (setLast l a)[l.length - 1]? = some ((lastP l).1, (lastP l).2.1, a, (lastP l).2.2.2) := fun a => by simp [setLast, hi]
  have hlen : ∀ a, l.length - 1 < (setLast l a).length := fun a => by rw [setLast_length]; exact hi
  have hgg : ∀ a (h : l.length - 1 < (setLast l a).length), (setLast l a)[l.length - 1] = ((lastP l).1, (lastP l).2.1, a, (lastP l).2.2.2) := fun a h => by simp [setLast]
  have hss : ∀ a a', (setLast l a).set (l.length - 1) ((lastP l).1, (lastP l).2.1, a', (lastP l).2.2.2) = setLast l a' := fun a a' => by simp [setLast]
  refine ⟨fun {_ _ _ _ _ _ a} hf hx => ?_, fun {_ _ _ _ _ _ a} hf hx => ?_, fun {w0 ty _ _ _ _ _ a a'} hf hx hy => ?_, fun {w0 ty _ _ _ _ _ a a'} hf hx hy => ?_⟩
  · exact rv_elS (E' := ePart) (i := l.length - 1) (f := 2) (xs := setLast l a) (vs := [.int .u64 a, .int .u64 (lastP l).2.2.2]) hf hx (hl := hlen a) (hv := by rw [hgg a]; rfl)
  · exact rv_elfG (E' := ePart) (l.length - 1) 2 _ (hf := hf) (hx := hx) (hget := hg a)
  · have := dv_putEl (w0 := w0) (ty := ty) (P := Try.prog) (T := 71) (E' := ePart) (i := l.length - 1) (s := 4) (f := 2) (xs := setLast l a) (vs := [.int .u64 a', .int .u64 (lastP l).2.2.2]) ((lastP l).1, (lastP l).2.1, a', (lastP l).2.2.2) hf hx hy rfl (fun u hu => by simp at hu; rcases hu with rfl | rfl <;> rfl) rfl rfl (hlen a) (by show 2 + 2 ≤ 4; omega) (by rw [hgg a]; rfl)
    rw [hss a a'] at this
    exact this
  · have := dv_putEl (w0 := w0) (ty := ty) (P := Try.prog) (T := 27) (E' := ePart) (i := l.length - 1) (s := 4) (f := 2) (xs := setLast l a) (vs := [.int .u64 a']) ((lastP l).1, (lastP l).2.1, a', (lastP l).2.2.2) hf hx hy rfl (fun u hu => by simp at hu; subst hu; rfl) rfl rfl (hlen a) (by show 2 + 1 ≤ 4; omega) (by rw [hgg a]; rfl)
    rw [hss a a'] at this
    exact this
attribute [local irreducible] Core
set_option maxHeartbeats 8000000
attribute [local irreducible] X XE XO XD XDi XDa PV RV DV pt base Spec Sl Mp Keeps Pg Kc

/-- The shadow, of which the cursor on top is taken out. -/
def topV (b : Nat) (s : Sh) : Value → List HP → Prop := fun v L => ∃ (cb o : Nat) (A : Int → HP) (G : HP) (a a' : Option Addr) (c c' : Nat), v = .pointer (some ⟨cb, o, none⟩) ∧ Cur Try.prog cb o (topEnd s) A ∧
  (∀ at_ obj pad H, SL [pt b (.cells [.slice a s.parts.length c, .slice a' s.larges.length c', .int .u64 obj, .int .u64 pad].toArray 58 (0, 0)), A at_, Sl eRun a' c' s.larges, G] H → Shd b (setTop s at_ obj pad) H) ∧
  L = [pt b (.cells [.slice a s.parts.length c, .slice a' s.larges.length c', .int .u64 s.obj, .int .u64 s.pad].toArray 58 (0, 0)), A (topAt s), Sl eRun a' c' s.larges, G]
theorem top_spec (b : Nat) (s : Sh) (hl : s.parts.length ≤ 4611686018427387904) : Spec Try.prog 20 [.pointer (some ⟨b, 0, none⟩)] [Shd b s] (topV b s) := by
  refine Spec.intro (IsEnt.out) Try.func20 rfl Try.ntmps20 (by simp) (fun w0 F => ?_)
  simp only [envOf, List.zipIdx, List.map, List.cons_append, List.nil_append, Nat.zero_add, Nat.reduceAdd]
  unfold topV
  refine X_open .here Shd.open ?_
  rintro ⟨a, c, a', c'⟩ -
  dsimp only [List.cons_append, List.nil_append]
  repeat (first | refine Zp pv_move ?_ | refine Zp pv_assign ?_ | refine Zp pv_nil_ptr ?_ | refine Zp pv_cmp ?_ | refine Zp pv_field ?_ | refine Zr rv_load ?_ | refine Zp pv_len_slice ?_ | refine X_seq ?_ | refine X_region ?_ | refine XO_nil ?_ | refine XE_code ?_)
  refine X_cond rfl (fun h => ?_) (fun h => ?_)
  · have h0 : s.parts = [] := by
      have : ((s.parts.length : Int) == 0) = true := h
      exact List.length_eq_zero_iff.1 (by simpa using this)
    repeat (first | refine Zp pv_build0 ?_ | refine X_seq ?_ | refine X_region ?_)
    refine XO_dv dv_box (hk := ?_)
    rintro _ _ ⟨cb, rfl, rfl⟩
    repeat (first | refine Zp pv_assign ?_ | refine X_ret ?_ | refine XO_nil ?_ | refine XE_code ?_ | refine XE_code_ret ?_)
    refine XE_ret (.inl rfl) (tells_tmps rfl rfl) ⟨_, ⟨cb, 0, fun x => pt cb (.cells [.int .u64 x, .int .u64 0].toArray 71 (0, 0)), Sl ePart a c s.parts, a, a', c, c', rfl, ?_, ?_, rfl⟩, ?_⟩
    · have he : topEnd s = 0 := by unfold topEnd; rw [h0]; rfl
      rw [he]
      exact Cur.cell cb 0
    · intro at_ obj pad H hs
      have hst : setTop s at_ obj pad = ⟨s.parts, s.larges, obj, pad⟩ := by unfold setTop; rw [h0]; rfl
      rw [hst]
      refine Shd.fold (s := ⟨s.parts, s.larges, obj, pad⟩) (a := a) (c := c) (a' := a') (c' := c') H ?_
      revert H
      intro H hs
      refine (show ∀ H, SL _ H → SL _ H from ?_) H hs
      ((try simp only [List.cons_append, List.nil_append]); repeat (first | exact ent_refl | refine ent_take (by repeat (first | exact Find.here | apply Find.there)) ?_ | refine ent_drop ?_))
    · have ht : topAt s = 0 := by unfold topAt; rw [h0]; rfl
      rw [ht]
      ((try simp only [List.cons_append, List.nil_append]); repeat (first | exact ent_refl | refine ent_take (by repeat (first | exact Find.here | apply Find.there)) ?_ | refine ent_drop ?_))
  · have h0 : 0 < s.parts.length := by
      have : ((s.parts.length : Int) == 0) = false := h
      have : ¬ (s.parts.length : Int) = 0 := by simpa using this
      omega
    refine X_slopen (E' := ePart) (a := a) (c := c) (xs := s.parts) (by (repeat (first | exact Find.here | apply Find.there))) h0 ?_
    rintro qb o rfl
    repeat (first | refine X_seq ?_ | refine X_skip ?_ | refine XE_code ?_)
    repeat (first | refine Dp pv_move ?_ | refine Dp pv_nil_ptr ?_ | refine Dp pv_field ?_ | refine Dp pv_arith ?_ | refine Dp pv_index ?_ | refine Dp pv_len_slice ?_ | refine Dr rv_load ?_ | refine XD_pick (h := ?_) | refine X_draws (h := ?_))
    (refine XD_one (h := ?_); refine XDa_dvA (dv_of_rv (rv_of_pv pv_assign)) (hk := ?_); rintro _ _ ⟨rfl, rfl⟩; refine ⟨by (repeat (first | exact keeps_nil | exact keeps_fnil | refine keeps_skip (h := ?_) | refine keeps_takeA (hv := by first | exact rv_load | exact rv_loadW | exact rv_loadS) (h := ?_))), ?_⟩)
    (refine XD_end (h := ?_); repeat (first | refine X_ret ?_ | refine XE_code ?_))
    have hto : ((s.parts.length : Int) - 1).toNat = s.parts.length - 1 := by omega
    have hself : setLast s.parts (topAt s) = s.parts := setLast_self _
    simp only [hto]
    refine XE_conv (fun _ => SL_true) ?_
    refine XE_ret (.inl rfl) (tells_tmps rfl rfl) ⟨_, ⟨qb, o + (s.parts.length - 1) * 4 + 2, fun x => Sl ePart (some ⟨qb, o, none⟩) c (setLast s.parts x), pur True, some ⟨qb, o, none⟩, a', c, c', rfl, Cur.part qb o c s.parts h0, ?_, rfl⟩, ?_⟩
    · intro at_ obj pad H hs
      unfold setTop
      refine Shd.fold (s := ⟨setLast s.parts at_, s.larges, obj, pad⟩) (a := some ⟨qb, o, none⟩) (c := c) (a' := a') (c' := c') H ?_
      dsimp only
      rw [setLast_length]
      refine (show ∀ H, SL _ H → SL _ H from ?_) H hs
      ((try simp only [List.cons_append, List.nil_append]); repeat (first | exact ent_refl | refine ent_take (by repeat (first | exact Find.here | apply Find.there)) ?_ | refine ent_drop ?_))
    · dsimp only
      rw [hself]
      ((try simp only [List.cons_append, List.nil_append]); repeat (first | exact ent_refl | refine ent_take (by repeat (first | exact Find.here | apply Find.there)) ?_ | refine ent_drop ?_))
end Go.Proofs.Ytlhjiciimeefeaa.Sep
