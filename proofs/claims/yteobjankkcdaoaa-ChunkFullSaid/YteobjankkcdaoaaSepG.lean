import Derived.Test.YteobjankkcdaoaaSepR
namespace Go.Proofs.Yteobjankkcdaoaa.Sep
open Go.RowKit
set_option linter.unusedSimpArgs false
set_option linter.unusedVariables false
/-! slices cut anywhere, moved within themselves, cleared -/
section
variable {P : Program} {w0 : World} {n : Nat} {Q : Exit → Act → World → Prop} {k : List KI} {e : Env} {L R : List HP} {all : Array Oper} {rest : List Oper} {ty : TypeId} {pos : String} {aft : Array Edge} {d : Nat}
variable {α : Type} {E' : E α}
def subA (a : Option Addr) (l cap s : Nat) : Option Addr := if cap = l then a else a.map (·.add (l * s))
theorem elem_of {T el : TypeId} (hu : P.underlying T = some (.slice el)) : P.elem T = el := by unfold Program.elem; rw [hu]
theorem pv_sliceL {T el s by' : Nat} {x lo : Operand} {z : Value} {a : Option Addr} {len cap : Nat} {kl : IntKind} {l : Int} [hu : TU P T (.slice el)] [hti : TI P el z s by'] (hx : ev e x = some (.slice a len cap) := by rfl) (hh : ev e lo = some (.int kl l) := by rfl)
    (h0 : 0 ≤ l := by omega) (h1 : l ≤ (len : Int) := by omega) : PV P (.slice T x (some lo) none none) ty e (.slice (subA a l.toNat cap s) (len - l.toNat) (cap - l.toNat)) := fun tm w pos aft ha => by
  have hel := elem_of hu.out
  have hr1 := run_sliceAt_slice (P := P) (w := w) T (.slice a len cap) (some (.int kl l)) none none (by rw [hel]; exact hu.out)
  have hr2 := run_slice_l (P := P) (w := w) T a len cap (by rw [hel]; exact hu.out) kl l h0 h1
  have hsz : (sizeOf (P.elem T)).run P w = .ok s w := by rw [hel]; exact run_size hti
  simp [execOp, ev_sound ha hx, ev_sound ha hh, hr1, hr2, hsz, sliced, subA]
theorem pv_sliceLH {T el s by' : Nat} {x lo hi : Operand} {z : Value} {a : Option Addr} {len cap : Nat} {kl kh : IntKind} {l h : Int} [hu : TU P T (.slice el)] [hti : TI P el z s by'] (hx : ev e x = some (.slice a len cap) := by rfl) (hlo : ev e lo = some (.int kl l) := by rfl) (hhi : ev e hi = some (.int kh h) := by rfl)
    (h0 : 0 ≤ l := by omega) (h1 : l ≤ h := by omega) (h2 : h ≤ (cap : Int) := by omega) : PV P (.slice T x (some lo) (some hi) none) ty e (.slice (subA a l.toNat cap s) (h.toNat - l.toNat) (cap - l.toNat)) := fun tm w pos aft ha => by
  have hel := elem_of hu.out
  have hr1 := run_sliceAt_slice (P := P) (w := w) T (.slice a len cap) (some (.int kl l)) (some (.int kh h)) none (by rw [hel]; exact hu.out)
  have hr2 := run_slice_lh (P := P) (w := w) T a len cap (by rw [hel]; exact hu.out) kl kh l h h0 h1 h2
  have hsz : (sizeOf (P.elem T)).run P w = .ok s w := by rw [hel]; exact run_size hti
  simp [execOp, ev_sound ha hx, ev_sound ha hlo, ev_sound ha hhi, hr1, hr2, hsz, sliced, subA]
theorem pv_sliceLHM {T el s by' : Nat} {x lo hi mx : Operand} {z : Value} {a : Option Addr} {len cap : Nat} {kl kh km : IntKind} {l h m : Int} [hu : TU P T (.slice el)] [hti : TI P el z s by'] (hx : ev e x = some (.slice a len cap) := by rfl) (hlo : ev e lo = some (.int kl l) := by rfl) (hhi : ev e hi = some (.int kh h) := by rfl) (hmx : ev e mx = some (.int km m) := by rfl)
    (h0 : 0 ≤ l := by omega) (h1 : l ≤ h := by omega) (h2 : h ≤ m := by omega) (h3 : m ≤ (cap : Int) := by omega) : PV P (.slice T x (some lo) (some hi) (some mx)) ty e (.slice (subA a l.toNat m.toNat s) (h.toNat - l.toNat) (m.toNat - l.toNat)) := fun tm w pos aft ha => by
  have hel := elem_of hu.out
  have hr1 := run_sliceAt_slice (P := P) (w := w) T (.slice a len cap) (some (.int kl l)) (some (.int kh h)) (some (.int km m)) (by rw [hel]; exact hu.out)
  have hr2 := run_slice_lhm (P := P) (w := w) T a len cap (by rw [hel]; exact hu.out) kl kh km l h m h0 h1 h2 h3
  have hsz : (sizeOf (P.elem T)).run P w = .ok s w := by rw [hel]; exact run_size hti
  simp [execOp, ev_sound ha hx, ev_sound ha hlo, ev_sound ha hhi, ev_sound ha hmx, hr1, hr2, hsz, sliced, subA]
theorem View.drop {A : HP} {a : Option Addr} {xs : List α} (l : Nat) {cap s : Nat} (hs : E'.sz = s) (hc : xs.length ≤ cap) (hv : View A E' a xs) : View A E' (subA a l cap s) (xs.drop l) := by
  intro H hH
  by_cases he : xs.drop l = []
  · exact .inl he
  right
  have hlt : l < xs.length := by
    rcases Nat.lt_or_ge l xs.length with h | h
    · exact h
    · exact absurd (List.drop_eq_nil_of_le h) he
  rcases hv H hH with rfl | ⟨⟨b, o, sp⟩, rfl, hsp, row, T', fr, hb, hrow⟩
  · simp at hlt
  simp only at hsp
  subst hsp
  have hne : ¬ cap = l := by omega
  have h4 : (⟨b, o, none⟩ : Addr).add (l * s) = ⟨b, o + l * s, none⟩ := by unfold Addr.add; split <;> simp_all
  refine ⟨⟨b, o + l * s, none⟩, by simp [subA, hne, h4], rfl, row, T', fr, hb, fun j v hj => ?_⟩
  have h5 : (flat E' xs)[l * s + j]? = some v := by
    rw [← List.take_append_drop l xs, flat_append, List.getElem?_append_right (by rw [flat_length, List.length_take, hs]; exact Nat.le_trans (Nat.mul_le_mul_right _ (Nat.min_le_left _ _)) (Nat.le_add_right _ _)), flat_length, List.length_take, Nat.min_eq_left (by omega), hs]
    rw [Nat.add_sub_cancel_left]; exact hj
  have := hrow _ _ h5
  simp only at this ⊢
  rw [Nat.add_assoc]; exact this
/-- append(s[:i], s[j:]...): a slice is moved within itself. -/
theorem dv_appendSelf {t tx el s by' : Nat} {x y : Operand} {b o c c2 : Nat} (i j : Nat) {xs : List α} {z : Value} [hu : TU P t (.slice el)] [hux : TU P tx (.slice el)] [hi : TI P el z s by'] (hx : ev e x = some (.slice (some ⟨b, o, none⟩) i c) := by rfl) (hy : ev e y = some (.slice (subA (some ⟨b, o, none⟩) j c s) (xs.length - j) c2) := by rfl)
    (hf : Find L (Sl E' (some ⟨b, o, none⟩) c xs) R := by repeat (first | exact Find.here | apply Find.there)) (hs : E'.sz = s := by rfl) (hij : i ≤ j := by omega) (hjl : j ≤ xs.length := by omega) :
    DV P w0 (.call ⟨.builtin .append, #[x, y], #[t, tx]⟩) ty e L (fun v L' => v = .slice (some ⟨b, o, none⟩) (i + (xs.length - j)) c ∧ L' = Sl E' (some ⟨b, o, none⟩) c (xs.take i ++ xs.drop j) :: R) := dv_of_run fun tm w pos aft h2 h3 => by
  subst hs
  have h3' := h3.find hf
  obtain ⟨ii, hinf, hzero, hsz, hbytes⟩ := hi.out
  obtain ⟨H0, hA0, hle0⟩ := h3'.atom
  have hc : xs.length ≤ c := hA0.1
  have hvd := View.drop (E' := E') (s := E'.sz) j rfl hc (Sl.view (e := E') (a := some ⟨b, o, none⟩) (c := c) (xs := xs))
  have hsrc : Src P ii.size tx (.slice (subA (some ⟨b, o, none⟩) j c E'.sz) (xs.length - j) c2) (xs.length - j) (flat E' (xs.drop j)) w := by
    rw [hsz]
    have := src_of_view (P := P) (tx := tx) (el := el) (c := c2) hvd hA0 hle0 hux.out
    rw [List.length_drop] at this; exact this
  obtain ⟨_, hsp, row, T, hrow, pre, post, hr, hp, hq⟩ := hA0
  have hrw := hle0 _ _ hrow
  simp only at hp hrow hrw
  have hlen : i * E'.sz + (flat E' (xs.drop j)).length ≤ xs.length * E'.sz := by
    rw [flat_length, List.length_drop, ← Nat.add_mul]; exact Nat.mul_le_mul_right _ (by omega)
  have hsize : row.size = o + xs.length * E'.sz + post.length := by
    rw [← Array.length_toList, hr]; simp [flat_length, hp]; omega
  have hrun := run_append_room' (ty := ty) (sLen := i) (sCap := c) (off := o) hu.out hinf hrw hsrc (by omega) (by rw [hsz, hsize]; omega)
  refine ⟨_, _, _, by simp [execOp, resolve, invoke, builtin, ev_sound h2 hx, ev_sound h2 hy, hrun]; rfl, ⟨rfl, rfl⟩, ?_⟩
  rw [hsz]
  refine Sat.turn1w (b := b) h3' (fun H hH => ?_) rfl rfl rfl (setRow_at hrw) (fun k hk => setRow_ne hk) (fun H hH hle => ?_)
  · obtain ⟨_, _, row, T, hb, _⟩ := hH
    rw [hb]; simp
  · refine ⟨by simp; omega, rfl, _, T, by simp; rfl, pre, ((flat E' xs ++ post).drop (i * E'.sz + (flat E' (xs.drop j)).length)), ?_, hp, ?_⟩
    · have e1 : row.toList = pre ++ (flat E' xs ++ post) := by rw [hr, List.append_assoc]
      have e2 : (pre ++ (flat E' xs ++ post)).take (o + i * E'.sz) = pre ++ flat E' (xs.take i) := by
        rw [List.take_append, List.take_of_length_le (by omega), hp]
        congr 1
        rw [show o + i * E'.sz - o = i * E'.sz from by omega, List.take_append_of_le_length (by rw [flat_length]; exact Nat.mul_le_mul_right _ (by omega))]
        have : flat E' xs = flat E' (xs.take i) ++ flat E' (xs.drop i) := by rw [← flat_append, List.take_append_drop]
        rw [this, List.take_left' (by rw [flat_length, List.length_take, Nat.min_eq_left (by omega)])]
      rw [e1, e2, flat_append, List.drop_append, List.drop_of_length_le (l := pre) (by omega), List.nil_append, hp]
      rw [show o + i * E'.sz + (flat E' (xs.drop j)).length - o = i * E'.sz + (flat E' (xs.drop j)).length from by omega]
      simp [List.append_assoc]
    · rw [List.length_drop, List.length_append, flat_length, flat_length, hq]
      simp only [List.length_append, List.length_take, List.length_drop, Nat.min_eq_left (show i ≤ xs.length by omega)]
      rw [← Nat.add_mul, ← Nat.add_mul, ← Nat.sub_mul]
      congr 1; omega
/-- What stands behind a slice's elements is cleared. -/
theorem dv_clear {t el s by' : Nat} {x : Operand} {b o c c2 m : Nat} {xs : List α} {z : Value} [hu : TU P t (.slice el)] [hi : TI P el z s by'] (hx : ev e x = some (.slice (subA (some ⟨b, o, none⟩) xs.length c s) m c2) := by rfl) (hz : z.cells.size = s := by rfl) (h1 : z.cells.toList.all Value.oneCell' = true := by rfl)
    (hf : Find L (Sl E' (some ⟨b, o, none⟩) c xs) R := by repeat (first | exact Find.here | apply Find.there)) (hs : E'.sz = s := by rfl) (hm : xs.length + m ≤ c := by omega) :
    DV P w0 (.call ⟨.builtin .clear, #[x], #[t]⟩) ty e L (fun _ L' => L' = Sl E' (some ⟨b, o, none⟩) c xs :: R) := dv_of_run fun tm w pos aft h2 h3 => by
  subst hs
  have h3' := h3.find hf
  by_cases hm0 : m = 0
  · subst hm0
    refine ⟨.tuple #[], w, _, ?_, rfl, h3'⟩
    have h4 : (Builtin.clear_ #[t] ty #[.slice (subA (some ⟨b, o, none⟩) xs.length c E'.sz) 0 c2]).run P w = .ok (.tuple #[]) w := by
      cases subA (some ⟨b, o, none⟩) xs.length c E'.sz <;> simp [Builtin.clear_, run_und hu.out]
    simp [execOp, resolve, invoke, builtin, ev_sound h2 hx, h4]
  obtain ⟨H0, hA0, hle0⟩ := h3'.atom
  obtain ⟨hc, hsp, row, T, hrow, pre, post, hr, hp, hq⟩ := hA0
  have hrw := hle0 _ _ hrow
  simp only at hp hrow hrw
  have hne : ¬ c = xs.length := by omega
  have h4 : (⟨b, o, none⟩ : Addr).add (xs.length * E'.sz) = ⟨b, o + xs.length * E'.sz, none⟩ := by unfold Addr.add; split <;> simp_all
  have h5 : subA (some ⟨b, o, none⟩) xs.length c E'.sz = some ⟨b, o + xs.length * E'.sz, none⟩ := by simp [subA, hne, h4]
  have hzl : (Builtin.zeroCells z.cells m).toList.length = m * E'.sz := by simp [Builtin.zeroCells, hz]
  have hzo : ∀ v ∈ (Builtin.zeroCells z.cells m).toList, v.oneCell' = true := by
    intro v hv
    simp only [Builtin.zeroCells] at hv
    have hmem : v ∈ z.cells.toList := by
      simp at hv
      obtain ⟨q, _, hq2⟩ := hv
      rw [← hq2]
      have hp0 := E'.pos
      have hlt : q % z.cells.size < z.cells.size := Nat.mod_lt _ (by omega)
      simp [hlt]
    exact List.all_eq_true.1 h1 v hmem
  have hge : m * E'.sz ≤ (c - xs.length) * E'.sz := Nat.mul_le_mul_right _ (by omega)
  have hsize : row.size = o + xs.length * E'.sz + post.length := by rw [← Array.length_toList, hr]; simp [flat_length, hp]; omega
  have hst := run_storeCells_at P b (o + xs.length * E'.sz) T (Builtin.zeroCells z.cells m).toList 0 row w hrw (by rw [hzl, hsize, hq]; omega) hzo
  simp only [Nat.add_zero] at hst
  have hrun : (Builtin.clear_ #[t] ty #[.slice (some ⟨b, o + xs.length * E'.sz, none⟩) m c2]).run P w = .ok (.tuple #[]) (w.setRow b (row.toList.take (o + xs.length * E'.sz) ++ (Builtin.zeroCells z.cells m).toList ++ row.toList.drop (o + xs.length * E'.sz + (Builtin.zeroCells z.cells m).toList.length)).toArray) := by
    obtain ⟨m', rfl⟩ : ∃ m', m = m' + 1 := ⟨m - 1, by omega⟩
    simp only [Builtin.clear_, Sem.run_bind, run_und hu.out, Result.andThen_ok, run_zero hi, hst]
    simp [run_und hu.out, run_zero hi, hst]
  rw [h5] at hx
  have hop : ∀ (res : Result Value), (Builtin.clear_ #[t] ty #[.slice (some ⟨b, o + xs.length * E'.sz, none⟩) m c2]).run P w = res →
      (execOp (Act.mk tm []).eval ⟨none, .call ⟨.builtin .clear, #[x], #[t]⟩, ty, pos, aft, none⟩).run P w = res.andThen fun v w => .ok (.value v) w := by
    intro res h
    simp [execOp, resolve, invoke, builtin, ev_sound h2 hx, h]
  refine ⟨_, _, _, by rw [hop _ hrun]; rfl, rfl, ?_⟩
  refine Sat.turn1w (b := b) h3' (fun H hH => ?_) rfl rfl rfl (setRow_at hrw) (fun k hk => setRow_ne hk) (fun H hH hle => ?_)
  · obtain ⟨_, _, row, T, hb, _⟩ := hH
    rw [hb]; simp
  · refine ⟨hc, rfl, _, T, by simp; rfl, pre, (Builtin.zeroCells z.cells m).toList ++ post.drop (m * E'.sz), ?_, hp, ?_⟩
    · have e1 : (pre ++ flat E' xs).length = o + xs.length * E'.sz := by simp [flat_length, hp]
      have hzs : (Builtin.zeroCells z.cells m).size = m * E'.sz := by simpa using hzl
      rw [hr, hzs, List.take_left' e1, ← List.drop_drop, List.drop_left' e1, List.append_assoc]
    · rw [List.length_append, hzl, List.length_drop, hq]; omega
theorem Sat.fold {w : World} {S : List HP} {A : HP} (h : Sat w0 w L) (hf : FindAll L S R) (hc : ∀ H, SL S H → A H) : Sat w0 w (A :: R) := h.map (ent_fold hf hc ent_refl)
theorem XO_fold {S : List HP} {A : HP} {ops : List Oper} (hf : FindAll L S R) (hc : ∀ H, SL S H → A H) (h : XO ⟨P, w0, n, Q⟩ all k ops e (A :: R)) : XO ⟨P, w0, n, Q⟩ all k ops e L := XO_conv (ent_fold hf hc ent_refl) h
theorem X_fold {S : List HP} {A : HP} {c : Code} (hf : FindAll L S R) (hc : ∀ H, SL S H → A H) (h : X ⟨P, w0, n, Q⟩ k c e (A :: R)) : X ⟨P, w0, n, Q⟩ k c e L := X_conv (ent_fold hf hc ent_refl) h
theorem XE_fold {S : List HP} {A : HP} {x : Exit} (hf : FindAll L S R) (hc : ∀ H, SL S H → A H) (h : XE ⟨P, w0, n, Q⟩ k x e (A :: R)) : XE ⟨P, w0, n, Q⟩ k x e L := XE_conv (ent_fold hf hc ent_refl) h
theorem Sl.cap {a : Option Addr} {c : Nat} {xs : List α} : ∀ H, Sl E' a c xs H → xs.length ≤ c := by
  intro H h
  cases a with
  | none => obtain ⟨rfl, rfl⟩ := h; exact Nat.le_refl _
  | some ad => exact h.1
theorem rv_elG {T : TypeId} {x : Operand} {b o c s : Nat} {xs : List α} {dd : TypeDesc} {z : Value} {s' by' : Nat} (i : Nat) (x' : α) [hu : TU P T dd] [hi : TI P T z s' by'] (hf : Find L (Sl E' (some ⟨b, o, none⟩) c xs) R := by repeat (first | exact Find.here | apply Find.there)) (hx : ev e x = some (.pointer (some ⟨b, o + i * s, none⟩)) := by rfl)
    (hg : aggD dd = E'.agg := by rfl) (hs : E'.sz = s := by rfl) (hs' : s' = s := by rfl) (hget : xs[i]? = some x' := by simp; done) : RV P w0 (.load T x) ty e L (E'.val x') := by
  obtain ⟨hl, rfl⟩ := List.getElem?_eq_some_iff.1 hget
  exact rv_el hf hx hg hs hs' hl
theorem rv_velG {T : TypeId} {x : Operand} {A : HP} {b o s : Nat} {xs : List α} {dd : TypeDesc} {z : Value} {s' by' : Nat} (i : Nat) (x' : α) [hu : TU P T dd] [hi : TI P T z s' by'] (hV : View A E' (some ⟨b, o, none⟩) xs) (hf : Find L A R := by repeat (first | exact Find.here | apply Find.there)) (hx : ev e x = some (.pointer (some ⟨b, o + i * s, none⟩)) := by rfl)
    (hg : aggD dd = E'.agg := by rfl) (hs : E'.sz = s := by rfl) (hs' : s' = s := by rfl) (hget : xs[i]? = some x' := by simp; done) : RV P w0 (.load T x) ty e L (E'.val x') := by
  obtain ⟨hl, rfl⟩ := List.getElem?_eq_some_iff.1 hget
  exact rv_vel hV hf hx hg hs hs' hl
theorem rv_elfG {T : TypeId} {x : Operand} {b o c s : Nat} {xs : List α} {v : Value} {dd : TypeDesc} (i f : Nat) (x' : α) [hu : TU P T dd] (hf : Find L (Sl E' (some ⟨b, o, none⟩) c xs) R := by repeat (first | exact Find.here | apply Find.there)) (hx : ev e x = some (.pointer (some ⟨b, o + i * s + f, none⟩)) := by rfl)
    (hg : aggD dd = false := by rfl) (hs : E'.sz = s := by rfl) (hv : (E'.cells x')[f]? = some v := by rfl) (hget : xs[i]? = some x' := by simp; done) : RV P w0 (.load T x) ty e L v := by
  obtain ⟨hl, rfl⟩ := List.getElem?_eq_some_iff.1 hget
  exact rv_elf hf hx hg hs hl hv
theorem XDi_view {ops : Array Oper} {D : Pend} {vl : List Nat} {i : Nat} {oo : Oper} {A : HP} {a : Option Addr} {xs : List α} (hV : View A E' a xs) (hp : 0 < xs.length) (h : ∀ b o, a = some ⟨b, o, none⟩ → XDi ⟨P, w0, n, Q⟩ ops k D vl e L i oo) (hf : Find L A R := by repeat (first | exact Find.here | apply Find.there)) : XDi ⟨P, w0, n, Q⟩ ops k D vl e L i oo := by
  intro ho hi hr G fuel al tm w S hs
  obtain ⟨H1, hA, _⟩ := (hs.find hf).atom
  rcases hV H1 hA with rfl | ⟨⟨b, o, sp⟩, rfl, hsp, _⟩
  · simp at hp
  · simp only at hsp
    subst hsp
    exact h b o rfl ho hi hr G fuel al tm w S hs
/-- An element is stored whole. -/
theorem dv_putElW {T m by' : Nat} {x y : Operand} {b o c i s : Nat} {xs : List α} {vs : List Value} {z : Value} [hti : TI P T z m by'] (x' : α) (hf : Find L (Sl E' (some ⟨b, o, none⟩) c xs) R := by repeat (first | exact Find.here | apply Find.there)) (hx : ev e x = some (.pointer (some ⟨b, o + i * s, none⟩)) := by rfl) (hy : ev e y = some (.agg vs.toArray) := by rfl)
    (hm : vs.length = m := by rfl) (hs : E'.sz = s := by rfl) (hl : i < xs.length := by omega) (hx' : E'.cells x' = vs := by rfl) (hms : m = s := by rfl) :
    DV P w0 (.store T x y) ty e L (fun _ L' => L' = Sl E' (some ⟨b, o, none⟩) c (xs.set i x') :: R) := by
  subst hx' hms hs
  exact dv_putEl (f := 0) (vs := E'.cells x') x' hf hx hy rfl (fun u hu => E'.one x' u hu) hm rfl hl (by rw [E'.len]; omega) (by rw [List.take_zero, List.nil_append, Nat.zero_add, E'.len, List.drop_of_length_le (by rw [E'.len]; exact Nat.le_refl _), List.append_nil])
/-! rows of numbers -/
theorem rv_at {T : TypeId} {x : Operand} {kk : IntKind} {b c by' : Nat} {fl : List Int} {dd : TypeDesc} {z : Value} (i : Nat) [hu : TU P T dd] [hi : TI P T z 1 by'] (hf : Find L (Sl (eI kk) (some ⟨b, 0, none⟩) c fl) R := by repeat (first | exact Find.here | apply Find.there)) (hx : ev e x = some (.pointer (some ⟨b, i, none⟩)) := by rfl)
    (hg : aggD dd = false := by rfl) (hl : i < fl.length := by omega) : RV P w0 (.load T x) ty e L (.int kk (fl.getD i 0)) := by
  have h1 : (⟨b, i, none⟩ : Addr) = ⟨b, 0 + i * 1, none⟩ := by simp
  have h2 : (eI kk).val fl[i] = .int kk (fl.getD i 0) := by simp [eI, E.val, List.getD, hl]
  rw [← h2]
  exact rv_el (E' := eI kk) (i := i) (s := 1) (s' := 1) hf (by rw [hx, h1]) hg rfl rfl hl
theorem dv_putAt {T by' : Nat} {x y : Operand} {kk : IntKind} {b c : Nat} {fl : List Int} {z : Value} {v : Int} (i : Nat) [hti : TI P T z 1 by'] (hf : Find L (Sl (eI kk) (some ⟨b, 0, none⟩) c fl) R := by repeat (first | exact Find.here | apply Find.there)) (hx : ev e x = some (.pointer (some ⟨b, i, none⟩)) := by rfl) (hy : ev e y = some (.int kk v) := by rfl)
    (hl : i < fl.length := by omega) : DV P w0 (.store T x y) ty e L (fun _ L' => L' = Sl (eI kk) (some ⟨b, 0, none⟩) c (fl.set i v) :: R) := by
  have h1 : (⟨b, i, none⟩ : Addr) = ⟨b, 0 + i * 1 + 0, none⟩ := by simp
  exact dv_putEl (E' := eI kk) (f := 0) (i := i) (s := 1) (m := 1) (vs := [.int kk v]) v hf (by rw [hx, h1]) hy rfl (fun u hu => by simp at hu; subst hu; rfl) rfl rfl hl (Nat.le_refl _) rfl
theorem view_at {A : HP} {kk : IntKind} {b : Nat} {fl : List Int} (i : Nat) (hv : View A (eI kk) (some ⟨b, 0, none⟩) fl) : View A (eI kk) (some ⟨b, i, none⟩) (fl.drop i) := by
  intro H hH
  rcases hv H hH with rfl | ⟨ad, had, hsp, row, T, fr, hb, hr⟩
  · exact .inl (by simp)
  · obtain rfl := Option.some.inj had
    refine .inr ⟨_, rfl, rfl, row, T, fr, hb, fun j v hj => ?_⟩
    have h1 := hr (i + j) v (by
      have : flat (eI kk) (fl.drop i) = (flat (eI kk) fl).drop i := by
        have := flat_drop (E' := eI kk) fl i
        simpa [eI] using this
      rw [this, List.getElem?_drop] at hj; exact hj)
    simpa using h1
/-- A whole row is stored. -/
theorem dv_putAll {T m by' : Nat} {x y : Operand} {b c : Nat} {xs ys : List α} {vs : List Value} {z : Value} [hti : TI P T z m by'] (hf : Find L (Sl E' (some ⟨b, 0, none⟩) c xs) R := by repeat (first | exact Find.here | apply Find.there)) (hx : ev e x = some (.pointer (some ⟨b, 0, none⟩)) := by rfl) (hy : ev e y = some (.agg vs.toArray) := by rfl)
    (hvs : vs = flat E' ys := by rfl) (hm : vs.length = m := by rfl) (hl : ys.length = xs.length) : DV P w0 (.store T x y) ty e L (fun _ L' => L' = Sl E' (some ⟨b, 0, none⟩) c ys :: R) := dv_of_skip fun tm w pos aft h2 h3 => by
  have h3' := h3.find hf
  obtain ⟨H0, hA0, hle0⟩ := h3'.atom
  obtain ⟨hc, hsp, row, T', hb, pre, post, hr, hp, hq⟩ := hA0
  have hrw := hle0 _ _ hb
  simp only at hp hb hrw
  have hpre : pre = [] := List.length_eq_zero_iff.1 hp
  subst hpre
  have hlen : vs.length = xs.length * E'.sz := by rw [hvs, flat_length, hl]
  have hsz : row.size = xs.length * E'.sz + post.length := by rw [← Array.length_toList, hr]; simp [flat_length]
  have hrun := run_storeAt (P := P) (v := .agg vs.toArray) (o := 0) hti (by simpa [Value.cells] using hm) (by simp [Value.cells]; rw [hvs]; exact fun u hu => flat_one E' ys u hu) hrw (by rw [← hm, hlen, hsz]; omega)
  refine ⟨_, _, by simp only [execOp, ev_sound h2 hx, ev_sound h2 hy, Sem.run_bind, hrun, Result.andThen_ok, Sem.run_pure]; rfl, rfl, ?_⟩
  refine Sat.turn1w (b := b) h3' (fun H hH => ?_) rfl rfl rfl (setRow_at hrw) (fun k hk => setRow_ne hk) (fun H hH hle => ?_)
  · obtain ⟨_, _, row, T, hb, _⟩ := hH
    rw [hb]; simp
  · refine ⟨by rw [hl]; exact hc, rfl, _, T', by simp; rfl, [], post, ?_, rfl, by rw [hl]; exact hq⟩
    rw [hr]
    simp only [List.nil_append, List.take_zero, Value.cells, Nat.zero_add]
    rw [← hm, hlen, List.drop_left' (by rw [flat_length]), hvs]
theorem Sl.of_pt {b : Nat} {xs : List α} {vs : List Value} {T : TypeId} (hvs : vs = flat E' xs) : ∀ H, pt b (.cells vs.toArray T (0, 0)) H → Sl E' (some ⟨b, 0, none⟩) xs.length xs H := by
  intro H h
  subst hvs
  exact ⟨Nat.le_refl _, rfl, _, T, h, [], [], by simp, rfl, by simp⟩
theorem run_eqnilS {t el : TypeId} {a : Option Addr} {m c : Nat} (ht : P.underlying t = some (.slice el)) {w : World} : (Op.equal t (.slice a m c) (.slice none 0 0)).run P w = .ok a.isNone w :=
  equal_at P w t _ _ fun d => by cases a <;> simp [Op.equalIn, run_und ht]
theorem run_guard_slice {op : BinOp} {t : TypeId} {x y : Operand} {a : Option Addr} {m c : Nat} {v : Value} {w : World} : (eqGuard op t x y (.slice a m c) v).run P w = .ok () w := by
  cases op <;> simp [eqGuard]
theorem pv_eqnilS {t t' : TypeId} {x : Operand} {a : Option Addr} {m c : Nat} {el : TypeId} [ht : TU P t (.slice el)] (hx : ev e x = some (.slice a m c) := by rfl) : PV P (.binOp .eql t x (.const (.slice none 0 0)) t') ty e (.bool a.isNone) :=
  fun tm w pos aft h => by
    simp only [execOp, ev_sound h hx, Sem.run_bind, run_guard_slice, Result.andThen_ok]
    simp [eval_const, binOp, run_eqnilS ht.out]
end
end Go.Proofs.Yteobjankkcdaoaa.Sep
