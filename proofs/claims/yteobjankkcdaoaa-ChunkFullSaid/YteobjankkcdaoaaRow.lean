import Derived.Test.YteobjankkcdaoaaRows
import Derived.Test.YteobjankkcdaoaaSepE
import Derived.Test.YteobjankkcdaoaaSepX
import Derived.WalkKit
import Derived.ProofKit
import Derived.OpenShut
import Derived.ShutString
import Derived.ChangeOld
import Derived.ChangeSame
import Derived.ChangeSlices
import Derived.Carry
import Derived.Below
import Derived.SizedLaws
import Derived.Deep.Slices
import Derived.Deep.Fields
namespace Go.Proofs.Yteobjankkcdaoaa.Sep
open Go.ChangeShapes Go.WideShapes Go.ChangeAt Go.RowKit Go.Deep
set_option linter.unusedVariables false
/-! arguments that are slices of numbers, or of structs of numbers: what they read as, as views of the world at the start -/
section
variable {α : Type} {E' : E α}
theorem flat_split : ∀ {xs : List α} {j : Nat} {v : Value}, (flat E' xs)[j]? = some v → ∃ i x jj, xs[i]? = some x ∧ (E'.cells x)[jj]? = some v ∧ j = i * E'.sz + jj ∧ jj < E'.sz := by
  intro xs
  induction xs with
  | nil => intro j v h; simp [flat] at h
  | cons x xs ih =>
    intro j v h
    rw [show flat E' (x :: xs) = E'.cells x ++ flat E' xs from rfl] at h
    rcases Nat.lt_or_ge j (E'.cells x).length with hj | hj
    · rw [List.getElem?_append_left hj] at h
      exact ⟨0, x, j, rfl, h, by simp, by rwa [E'.len] at hj⟩
    · rw [List.getElem?_append_right hj, E'.len] at h
      rw [E'.len] at hj
      obtain ⟨i, y, jj, h1, h2, h3, h4⟩ := ih h
      exact ⟨i + 1, y, jj, by simpa using h1, h2, by rw [Nat.add_mul]; omega, h4⟩
theorem add_spot {ad : Addr} (h : ad.spot = none) (n : Nat) : ad.add n = ⟨ad.block, ad.off + n, none⟩ := by
  obtain ⟨b, o, s⟩ := ad
  simp only at h
  subst h
  unfold Addr.add
  split <;> simp_all
theorem view_of {W : World} {ad : Addr} {xs : List α} (hc : ∀ i x, xs[i]? = some x → ∀ j v, (E'.cells x)[j]? = some v → W.cell? (ad.add (i * E'.sz + j)) = some v) : View (base W) E' (some ad) xs := by
  intro H hH
  cases xs with
  | nil => exact .inl rfl
  | cons x xs =>
    right
    have hlt : 0 < (E'.cells x).length := by rw [E'.len]; exact E'.pos
    have h0 := hc 0 x rfl 0 _ (List.getElem?_eq_getElem hlt)
    rw [Nat.zero_mul, show ad.add (0 + 0) = ad from by simp [Addr.add]] at h0
    have hs : ad.spot = none := by
      cases hh : ad.spot with
      | none => rfl
      | some s => exact absurd h0 (by unfold World.cell?; split <;> simp_all)
    unfold World.cell? at h0
    split at h0
    · rename_i row T fr hb
      have hlt' : ad.block < W.heap.size := by
        rcases Nat.lt_or_ge ad.block W.heap.size with h | h
        · exact h
        · rw [Array.getElem?_eq_none h] at hb; cases hb
      unfold base at hH
      refine ⟨ad, rfl, hs, row, T, fr, (hH _ hlt').trans hb, fun j v hj => ?_⟩
      obtain ⟨i, y, jj, h1, h2, h3, _⟩ := flat_split hj
      have := hc i y h1 jj v h2
      rw [← h3, add_spot hs] at this
      simpa [World.cell?, hb] using this
    · cases h0
theorem View.length_nil {A : HP} (a : Option Addr) : View A E' a [] := fun _ _ => .inl rfl
end
/-- Records of numbers of these kinds. -/
def recCells : List IntKind → List Int → List Value
  | [], _ => []
  | k :: ks, x => .int k (x.headD 0) :: recCells ks x.tail
theorem recCells_len : ∀ (ks : List IntKind) (x : List Int), (recCells ks x).length = ks.length
  | [], _ => rfl
  | _ :: ks, x => by simp [recCells, recCells_len ks]
theorem recCells_one : ∀ (ks : List IntKind) (x : List Int), ∀ v ∈ recCells ks x, v.oneCell' = true
  | [], _, v, h => by simp [recCells] at h
  | k :: ks, x, v, h => by
    simp only [recCells, List.mem_cons] at h
    rcases h with rfl | h
    · rfl
    · exact recCells_one ks _ v h
def eR (k : IntKind) (ks : List IntKind) : E (List Int) := ⟨ks.length + 1, true, recCells (k :: ks), fun x => recCells_len _ _, fun x v h => recCells_one _ x v h, by omega, fun h => by cases h⟩
def WfR : List IntKind → List Int → Prop
  | [], x => x = []
  | k :: ks, n :: x => (Lit.int k n).wf = true ∧ WfR ks x
  | _ :: _, [] => False
section
variable {H : Type} {enc : TypeId × Value → H} {P : Program} {W : World} {b0 : Nat} {sp : Nat → Bool} {held : Bool}
theorem open_nums {t e : TypeId} {k : IntKind} {v : Value} {d : DataW H} {p : List MemPlace} {r : Reach} (ht : P.underlying t = some (.slice e)) (he : P.underlying e = some (.int k)) (hc : P.cellsOf e = 1) (hv : Value.okWide P W r b0 t v)
    (h : DataW.Trod enc P W 0 sp held t v d p) : ∃ (a : Option Addr) (c : Nat) (xs : List Int), v = .slice a xs.length c ∧ View (base W) (eI k) a xs ∧ (∀ n ∈ xs, (Lit.int k n).wf = true) ∧ xs.length ≤ maxLen := by
  obtain ⟨a, len, cap, rfl⟩ := okWide_slice ht hv
  obtain ⟨fuel, hf⟩ := h
  rcases open_ints ht he hc hf with ⟨h1, _⟩ | ⟨ad, l, c, zs, h1, _, hl, hm, hz, _, hcell, hw⟩
  · simp only [Value.cells] at h1
    obtain ⟨rfl, rfl, rfl⟩ : a = none ∧ len = 0 ∧ cap = 0 := by simpa using h1
    exact ⟨none, 0, [], rfl, fun _ _ => .inl rfl, (fun n h => by cases h), by simp⟩
  · obtain ⟨rfl, rfl, rfl⟩ : a = some ad ∧ len = l ∧ cap = c := by simpa [Value.cells] using h1
    have hle : len ≤ zs.length := by rw [hz]; split <;> omega
    refine ⟨some ad, cap, zs.take len, by simp [Nat.min_eq_left hle], view_of fun i x hx j v hj => ?_, fun n hn => hw n (List.mem_of_mem_take hn), by simp; omega⟩
    have hi : i < len := by
      have := (List.getElem?_eq_some_iff.1 hx).1
      simp at this; omega
    rw [List.getElem?_take_of_lt hi] at hx
    have h2 : zs.getD i 0 = x := by simp [hx]
    have h3 := hcell i (by omega)
    have hj0 : j = 0 := by
      have := (List.getElem?_eq_some_iff.1 hj).1
      simp [eI] at this; omega
    subst hj0
    have hv : v = .int k x := by simpa [eI] using hj.symm
    rw [show i * (eI k).sz + 0 = i from by simp [eI], h3, hv, h2]
/-- The fields are numbers of these kinds. -/
def FieldsAre (P : Program) : List Field → List IntKind → Prop
  | [], [] => True
  | f :: fs, k :: ks => P.underlying f.type = some (.int k) ∧ FieldsAre P fs ks
  | _, _ => False
theorem FieldsAre.length {P : Program} : ∀ {l : List Field} {q : List IntKind}, FieldsAre P l q → l.length = q.length
  | [], [], _ => rfl
  | [], _ :: _, h => by cases h
  | _ :: _, [], h => by cases h
  | _ :: _, _ :: _, h => by simp [FieldsAre.length h.2]
theorem rec_of {Q : Nat → Value → Prop} : ∀ {fs : List Field} {ks : List IntKind}, FieldsAre P fs ks → ∀ (o : Nat),
    (∀ j f, fs[j]? = some f → ∃ v, Q (o + j) v ∧ ∀ k, P.underlying f.type = some (.int k) → ∃ n, v = .int k n ∧ (Lit.int k n).wf = true) →
    ∃ x : List Int, WfR ks x ∧ ∀ j v, (recCells ks x)[j]? = some v → Q (o + j) v
  | [], [], _, _, _ => ⟨[], rfl, fun j v h => by simp [recCells] at h⟩
  | [], _ :: _, h, _, _ => by cases h
  | _ :: _, [], h, _, _ => by cases h
  | f :: fs, k :: ks, hf, o, hq => by
    obtain ⟨v, hv, hk⟩ := hq 0 f rfl
    obtain ⟨n, rfl, hw⟩ := hk k hf.1
    obtain ⟨x, hx, hc⟩ := rec_of hf.2 (o + 1) (fun j g hj => by
      have := hq (j + 1) g (by simpa using hj)
      rwa [show o + 1 + j = o + (j + 1) from by omega])
    refine ⟨n :: x, ⟨hw, hx⟩, fun j v hj => ?_⟩
    cases j with
    | zero => simp [recCells] at hj; subst hj; exact hv
    | succ j => simp only [recCells, List.tail_cons, List.getElem?_cons_succ] at hj; rw [show o + (j + 1) = o + 1 + j from by omega]; exact hc j v hj
theorem open_recs {t e : TypeId} {fs : Array Field} {k : IntKind} {ks : List IntKind} {v : Value} {d : DataW H} {p : List MemPlace} {r : Reach} (ht : P.underlying t = some (.slice e)) (he : P.underlying e = some (.struct fs)) (hone : oneCellFields P fs = true)
    (hC : P.cellsOf e = ks.length + 1) (hfs : FieldsAre P fs.toList (k :: ks)) (hv : Value.okWide P W r b0 t v)
    (h : DataW.Trod enc P W 0 sp held t v d p) : ∃ (a : Option Addr) (c : Nat) (xs : List (List Int)), v = .slice a xs.length c ∧ View (base W) (eR k ks) a xs ∧ (∀ x ∈ xs, WfR (k :: ks) x) ∧ xs.length ≤ maxLen := by
  obtain ⟨a, len, cap, rfl⟩ := okWide_slice ht hv
  obtain ⟨fuel, hf⟩ := h
  have hsz : fs.size = ks.length + 1 := by simpa using FieldsAre.length hfs
  rcases open_slice ht hf with ⟨h1, _⟩ | ⟨ad, l, c, m, n, D, Pl, h1, _, hl, hm, hmm, _, hi⟩
  · obtain ⟨rfl, rfl, rfl⟩ : a = none ∧ len = 0 ∧ cap = 0 := by simpa [Value.cells] using h1
    exact ⟨none, 0, [], rfl, fun _ _ => .inl rfl, (fun n h => by cases h), by simp⟩
  · obtain ⟨rfl, rfl, rfl⟩ : a = some ad ∧ len = l ∧ cap = c := by simpa [Value.cells] using h1
    have hle : len ≤ m := by rw [hmm]; split <;> omega
    have each : ∀ i, i < len → ∃ x : List Int, WfR (k :: ks) x ∧ ∀ j v, (recCells (k :: ks) x)[j]? = some v → W.cell? (ad.add (i * (ks.length + 1) + j)) = some v := by
      intro i him
      obtain ⟨cs', hc, ht'⟩ := hi i (by omega)
      rw [hC] at hc
      obtain ⟨ys, n', hn', hy, hlen, hyl, hg⟩ := DataW.trod_struct he ht'
      obtain ⟨_, hcl, hat⟩ := World.cells?_some hc
      have := rec_of (P := P) (Q := fun j v => W.cell? (ad.add (i * (ks.length + 1) + j)) = some v) hfs 0 (fun j f hj => by
        have hj' : fs[j]? = some f := by simpa using hj
        obtain ⟨ho, hk⟩ := hone_of hone j f hj'
        have hjl : j < ks.length + 1 := by
          have h1 := (List.getElem?_eq_some_iff.1 hj).1
          simp at h1
          omega
        have hcell := hat j hjl
        have hv : cs'[j]? = some (cs'[j]'(by omega)) := List.getElem?_eq_getElem (by omega)
        have h1 := hg j f hj'
        rw [ho, hk, List.drop_eq_getElem_cons (by omega : j < cs'.length)] at h1
        refine ⟨cs'[j]'(by omega), ?_, fun k' hk' => ?_⟩
        · rw [Nat.zero_add, ← Go.Deep.add_add, hcell, hv]
        · have hys : ys[j]? = some (ys[j]'(by rw [hyl, hsz]; exact hjl)) := List.getElem?_eq_getElem (by omega)
          rw [hys] at h1
          obtain ⟨n, h2, _, h4⟩ := DataW.trod_int hk' h1
          rw [List.take_succ_cons] at h2
          exact ⟨n, (List.cons.inj h2).1, h4⟩)
      obtain ⟨x, hx, hc⟩ := this
      exact ⟨x, hx, fun j v hj => by simpa using hc j v hj⟩
    let f : Nat → List Int := fun i => if h : i < len then Classical.choose (each i h) else []
    have hfi : ∀ i (h : i < len), WfR (k :: ks) (f i) ∧ ∀ j v, (recCells (k :: ks) (f i))[j]? = some v → W.cell? (ad.add (i * (ks.length + 1) + j)) = some v := by
      intro i h
      simp only [f, dif_pos h]
      exact Classical.choose_spec (each i h)
    refine ⟨some ad, cap, (List.range len).map f, by simp, view_of fun i x hx j v hj => ?_, ?_, by simp; omega⟩
    · have hi : i < len := by
        have := (List.getElem?_eq_some_iff.1 hx).1
        simpa using this
      have : f i = x := by simpa [hi] using hx
      subst this
      exact (hfi i hi).2 j v hj
    · intro x hx
      obtain ⟨i, hi, rfl⟩ := List.mem_map.1 hx
      exact (hfi i (List.mem_range.1 hi)).1
end
theorem wf_u8 {a : Int} (h : (Lit.int .u8 a).wf = true) : 0 ≤ a ∧ a ≤ 255 := by
  simp [Lit.wf, IntKind.min, IntKind.max, IntKind.signed, IntKind.bits] at h; exact h
theorem wf_u16 {a : Int} (h : (Lit.int .u16 a).wf = true) : 0 ≤ a ∧ a ≤ 65535 := by
  simp [Lit.wf, IntKind.min, IntKind.max, IntKind.signed, IntKind.bits] at h; exact h
theorem wf_u64 {a : Int} (h : (Lit.int .u64 a).wf = true) : 0 ≤ a ∧ a ≤ 18446744073709551615 := by
  simp [Lit.wf, IntKind.min, IntKind.max, IntKind.signed, IntKind.bits] at h; exact h
theorem wf_i64 {a : Int} (h : (Lit.int .i64 a).wf = true) : -9223372036854775808 ≤ a ∧ a ≤ 9223372036854775807 := by
  simp [Lit.wf, IntKind.min, IntKind.max, IntKind.signed, IntKind.bits] at h; exact h
/-! a view's elements -/
section
variable {P : Program} {w0 : World} {n : Nat} {Q : Exit → Act → World → Prop} {k : List KI} {e : Env} {L R : List HP} {ty : TypeId} {A : HP}
variable {α : Type} {E' : E α}
theorem X_view {code : Code} {a : Option Addr} {xs : List α} (hf : Find L A R) (hv : View A E' a xs) (hp : 0 < xs.length) (h : ∀ b o, a = some ⟨b, o, none⟩ → X ⟨P, w0, n, Q⟩ k code e L) : X ⟨P, w0, n, Q⟩ k code e L := by
  unfold X at *
  intro tm w h1 h2 h3
  obtain ⟨H1, hA, _⟩ := (h3.find hf).atom
  rcases hv H1 hA with rfl | ⟨⟨b, o, s⟩, ha, hs, _⟩
  · simp at hp
  · simp only at hs
    subst hs
    exact h b o ha tm w h1 h2 h3
theorem XO_view {all : Array Oper} {ops : List Oper} {a : Option Addr} {xs : List α} (hf : Find L A R) (hv : View A E' a xs) (hp : 0 < xs.length) (h : ∀ b o, a = some ⟨b, o, none⟩ → XO ⟨P, w0, n, Q⟩ all k ops e L) : XO ⟨P, w0, n, Q⟩ all k ops e L := by
  unfold XO at *
  intro tm w h1 h2 h3
  obtain ⟨H1, hA, _⟩ := (h3.find hf).atom
  rcases hv H1 hA with rfl | ⟨⟨b, o, s⟩, ha, hs, _⟩
  · simp at hp
  · simp only at hs
    subst hs
    exact h b o ha tm w h1 h2 h3
theorem holds_view {b o i f : Nat} {xs : List α} {x : α} {vs : List Value} (hV : View A E' (some ⟨b, o, none⟩) xs) (hx : xs[i]? = some x) (h : ((E'.cells x).drop f).take vs.length = vs) (hv : f + vs.length ≤ E'.sz) : Holds A b (o + i * E'.sz + f) vs := by
  intro H hH
  rcases hV H hH with rfl | ⟨ad, had, _, row, T, fr, hb, hr⟩
  · simp at hx
  obtain rfl : (⟨b, o, none⟩ : Addr) = ad := Option.some.inj had
  refine ⟨row, T, fr, hb, fun j v hj => ?_⟩
  have hlt : j < vs.length := (List.getElem?_eq_some_iff.1 hj).1
  have h2 := flat_get E' hx (j := f + j) (by omega)
  have := hr (i * E'.sz + (f + j)) v (by
    rw [h2, ← List.getElem?_drop, ← List.getElem?_take_of_lt hlt, h]; exact hj)
  rw [show o + i * E'.sz + f + j = o + (i * E'.sz + (f + j)) by omega]
  exact this
theorem rv_vel {T : TypeId} {x : Operand} {b o i s : Nat} {xs : List α} {dd : TypeDesc} {z : Value} {s' by' : Nat} [hu : TU P T dd] [hi : TI P T z s' by'] (hV : View A E' (some ⟨b, o, none⟩) xs) (hf : Find L A R := by repeat (first | exact Find.here | apply Find.there)) (hx : ev e x = some (.pointer (some ⟨b, o + i * s, none⟩)) := by rfl)
    (hg : aggD dd = E'.agg := by rfl) (hs : E'.sz = s := by rfl) (hs' : s' = s := by rfl) (hl : i < xs.length := by omega) : RV P w0 (.load T x) ty e L (E'.val xs[i]) := by
  subst hs hs'
  have hget : xs[i]? = some xs[i] := by simp [hl]
  have hh := holds_view (E' := E') (b := b) (o := o) (f := 0) (vs := E'.cells xs[i]) hV hget (by simp) (by rw [E'.len]; omega)
  rw [Nat.add_zero] at hh
  cases hag : E'.agg
  · rw [hag] at hg
    have h1 := E'.len xs[i]
    rw [E'.sole hag] at h1
    obtain ⟨v, hv⟩ := List.length_eq_one_iff.1 h1
    rw [hv] at hh
    have : E'.val xs[i] = v := by unfold E.val; rw [hag, hv]; rfl
    rw [this]
    exact rv_load1 hg hf hx hh
  · rw [hag] at hg
    have : E'.val xs[i] = .agg (E'.cells xs[i]).toArray := by unfold E.val; rw [hag]; rfl
    rw [this]
    exact rv_loadA (vs := E'.cells xs[i]) hg hf hx (E'.len _) hh
theorem rv_velf {T : TypeId} {x : Operand} {b o i s f : Nat} {xs : List α} {v : Value} {dd : TypeDesc} [hu : TU P T dd] (hV : View A E' (some ⟨b, o, none⟩) xs) (hf : Find L A R := by repeat (first | exact Find.here | apply Find.there)) (hx : ev e x = some (.pointer (some ⟨b, o + i * s + f, none⟩)) := by rfl)
    (hg : aggD dd = false := by rfl) (hs : E'.sz = s := by rfl) (hl : i < xs.length := by omega) (hv : (E'.cells xs[i])[f]? = some v := by rfl) : RV P w0 (.load T x) ty e L v := by
  subst hs
  have hget : xs[i]? = some xs[i] := by simp [hl]
  have hlt : f < (E'.cells xs[i]).length := (List.getElem?_eq_some_iff.1 hv).1
  refine rv_load1 hg hf hx (holds_view (f := f) (vs := [v]) hV hget ?_ (by rw [E'.len] at hlt; simp; omega))
  rw [List.drop_eq_getElem_cons hlt]
  simp [List.getElem?_eq_some_iff.1 hv |>.2]
end
end Go.Proofs.Yteobjankkcdaoaa.Sep
