import Derived.Test.YtamecmklcnohjaaGreatBn9
import Derived.Test.YtamecmklcnohjaaGreatBn7
import Derived.Test.YtamecmklcnohjaaGreatBn4
/- What the laws share: a separation logic over the model, and what the program's functions do, by it. Part 10 of 15: Grow RegG Cur RegA RegB RegC RegD RegE RegF Star Tree. -/
namespace Go.Proofs.YtamecmklcnohjaaGreat.Sep
open Go.RowKit
set_option linter.unusedSimpArgs false
set_option linter.unusedVariables false
theorem setLast_append (l t : List Part) (a : Int) (h : t ≠ []) : setLast (l ++ t) a = l ++ setLast t a := by
  have hp : 0 < t.length := List.length_pos_iff.2 h
  have hl : lastP (l ++ t) = lastP t := by
    unfold lastP
    rw [List.length_append, show l.length + t.length - 1 = l.length + (t.length - 1) from by omega]
    simp only [List.getD, List.getElem?_append_right (Nat.le_add_right _ _), Nat.add_sub_cancel_left]
  unfold setLast
  rw [hl, List.length_append, show l.length + t.length - 1 = l.length + (t.length - 1) from by omega, List.set_append_right _ _ (Nat.le_add_right _ _), Nat.add_sub_cancel_left]
theorem lastP_setLast (l : List Part) (a : Int) (h : l ≠ []) : lastP (setLast l a) = ((lastP l).1, (lastP l).2.1, a, (lastP l).2.2.2) := by
  have hp : 0 < l.length := List.length_pos_iff.2 h
  have hi : l.length - 1 < l.length := by omega
  unfold lastP
  rw [setLast_length]
  unfold setLast
  simp [List.getD, hi, lastP]
theorem setLast_setLast (l : List Part) (a a' : Int) : setLast (setLast l a) a' = setLast l a' := by
  by_cases h : l = []
  · subst h; rfl
  · have h1 := lastP_setLast l a h
    unfold setLast at h1 ⊢
    rw [h1]
    simp
structure Grow (s0 s : Sh) : Prop where
  parts : ∃ a t, s.parts = setLast s0.parts a ++ t ∧ topAt s0 ≤ a
  larges : ∃ t, s.larges = s0.larges ++ t
theorem Grow.refl (s : Sh) : Grow s s := ⟨⟨topAt s, [], by rw [List.append_nil]; exact (setLast_self _).symm, Int.le_refl _⟩, ⟨[], (List.append_nil _).symm⟩⟩
theorem Grow.top {s0 s : Sh} {en o p : Int} (h : Grow s0 s) (ht : topAt s ≤ en) : Grow s0 (setTop s en o p) := by
  obtain ⟨⟨a, t, h1, h2⟩, h3⟩ := h
  refine ⟨?_, h3⟩
  show ∃ a t, setLast s.parts en = setLast s0.parts a ++ t ∧ topAt s0 ≤ a
  by_cases h0 : t = []
  · subst h0
    rw [List.append_nil] at h1
    by_cases hn : s0.parts = []
    · refine ⟨a, [], ?_, h2⟩
      rw [h1, hn]; rfl
    · refine ⟨en, [], by rw [h1, setLast_setLast, List.append_nil], ?_⟩
      have : topAt s = a := by unfold topAt; rw [h1, lastP_setLast _ _ hn]
      omega
  · exact ⟨a, setLast t en, by rw [h1, setLast_append _ _ _ h0], h2⟩
theorem Grow.part {s0 s : Sh} {r cur : Int × Int} (h : Grow s0 s) : Grow s0 (partS s r cur) := by
  obtain ⟨⟨a, t, h1, h2⟩, h3⟩ := h
  exact ⟨⟨a, t ++ [(r.1, r.2, cur.1, cur.2)], by unfold partS; simp only; rw [h1, List.append_assoc], h2⟩, h3⟩
theorem Grow.big {s0 s : Sh} {r : Int × Int} {size : Int} (f : Option (Int × Int × Int)) (h : Grow s0 s) : Grow s0 (bigS s r size f) := by
  have hp : (bigS s r size f).parts = s.parts := by cases f <;> rfl
  have hl : (bigS s r size f).larges = s.larges ++ [r] := by cases f <;> rfl
  obtain ⟨h1, ⟨t, h3⟩⟩ := h
  exact ⟨by rw [hp]; exact h1, ⟨t ++ [r], by rw [hl, h3, List.append_assoc]⟩⟩
theorem Grow.made {s0 s s' : Sh} {size align : Int} (h : Grow s0 s) (hs : ShOk s) (h0 : 0 ≤ size) (h2 : 0 ≤ align) (hm : madeS s size align = some s') : Grow s0 s' := by
  unfold madeS at hm
  cases hf : fitI (topAt s) (topEnd s) size align with
  | none => rw [hf] at hm; cases hm
  | some q =>
    rw [hf, Option.map_some, Option.some.injEq] at hm
    subst hm
    exact h.top (fit_bd (top_bd hs).1 h2 h0 hf).1
theorem Grow.alloc {C : Co} {B : Nat} {s0 s : Sh} {size align : Int} (h : Grow s0 s) (hC : CInv C) (hs : SInv C.P B s) (hd : ∀ x, cC x C + cS x s ≤ 1) (h0 : 0 ≤ size) (h2 : 0 ≤ align) : Grow s0 (allocS C s size align).1.2 := by
  have hP := hC.ok.p2
  unfold allocS
  split
  · exact h
  · cases hm : madeS s size align with
    | some s' => exact h.made hs.ok h0 h2 hm
    | none =>
      dsimp only
      split
      · exact h
      · rename_i hok
        obtain ⟨n, big, ok, hch⟩ : ∃ n big ok, chunkI size align = (n, big, ok) := ⟨_, _, _, rfl⟩
        rw [hch] at hok ⊢
        have hok : ok = true := by simpa using hok
        subst hok
        obtain ⟨c1, c2, c3⟩ := chunk_n h0 h2 hch
        obtain ⟨g1, g2, g3, g4⟩ := get_inv (n := n) hC (fun x => by have := hd x; have := cS_nn x s; omega) c1 c2
        dsimp only
        unfold growS
        split
        · rename_i he
          obtain ⟨a1, _, _⟩ := g3 he
          split
          · exact h.big _
          · cases hm2 : madeS (partS s ((getC C n).2.1, n) (ofI (getC C n).2.1 n)) size align with
            | none => exact h.part
            | some s2 => exact h.part.made (part_inv hP hs a1 (ofI_bd _ _)).1.ok h0 h2 hm2
        · exact h
def CurOk (s : Sh) : Prop := ∀ p ∈ s.parts, (ofI p.1 p.2.1).1 ≤ p.2.2.1
theorem CurOk.made {s s' : Sh} {size align : Int} (h : CurOk s) (hs : ShOk s) (h0 : 0 ≤ size) (h2 : 0 ≤ align) (hm : madeS s size align = some s') : CurOk s' := by
  unfold madeS at hm
  cases hf : fitI (topAt s) (topEnd s) size align with
  | none => rw [hf] at hm; cases hm
  | some q =>
    rw [hf, Option.map_some, Option.some.injEq] at hm
    subst hm
    have hq := (fit_bd (top_bd hs).1 h2 h0 hf).1
    intro p hp
    have hp : p ∈ setLast s.parts q.2.1 := hp
    unfold setLast at hp
    rcases List.mem_or_eq_of_mem_set hp with hp | rfl
    · exact h p hp
    · have hne : s.parts ≠ [] := by rintro h0; rw [h0] at hp; simp at hp
      have h1 := h _ (last_mem hne)
      unfold topAt at hq
      dsimp only
      omega
theorem CurOk.alloc {C : Co} {B : Nat} {s : Sh} {size align : Int} (h : CurOk s) (hC : CInv C) (hs : SInv C.P B s) (hd : ∀ x, cC x C + cS x s ≤ 1) (h0 : 0 ≤ size) (h2 : 0 ≤ align) : CurOk (allocS C s size align).1.2 := by
  have hP := hC.ok.p2
  unfold allocS
  split
  · exact h
  · cases hm : madeS s size align with
    | some s' => exact h.made hs.ok h0 h2 hm
    | none =>
      dsimp only
      split
      · exact h
      · rename_i hok
        obtain ⟨n, big, ok, hch⟩ : ∃ n big ok, chunkI size align = (n, big, ok) := ⟨_, _, _, rfl⟩
        rw [hch] at hok ⊢
        have hok : ok = true := by simpa using hok
        subst hok
        obtain ⟨c1, c2, c3⟩ := chunk_n h0 h2 hch
        obtain ⟨g1, g2, g3, g4⟩ := get_inv (n := n) hC (fun x => by have := hd x; have := cS_nn x s; omega) c1 c2
        dsimp only
        unfold growS
        split
        · rename_i he
          obtain ⟨a1, _, _⟩ := g3 he
          have hpart : CurOk (partS s ((getC C n).2.1, n) (ofI (getC C n).2.1 n)) := by
            intro p hp
            rcases List.mem_append.1 hp with hp | hp
            · exact h p hp
            · simp at hp; subst hp; exact Int.le_refl _
          split
          · intro p hp
            have hpp : (bigS s ((getC C n).2.1, n) size (fitI (ofI (getC C n).2.1 n).1 (ofI (getC C n).2.1 n).2 size align)).parts = s.parts := by cases fitI (ofI (getC C n).2.1 n).1 (ofI (getC C n).2.1 n).2 size align <;> rfl
            rw [hpp] at hp
            exact h p hp
          · cases hm2 : madeS (partS s ((getC C n).2.1, n) (ofI (getC C n).2.1 n)) size align with
            | none => exact hpart
            | some s2 => exact hpart.made (part_inv hP hs a1 (ofI_bd _ _)).1.ok h0 h2 hm2
        · exact h
theorem rew_back {C : Co} {s0 s : Sh} (h : Grow s0 s) (hc : CurOk s0) : rewS C s s0.parts.length s0.larges.length (topAt s0) s0.obj s0.pad = some (putsC C s s0.parts.length s0.larges.length, s0) := by
  obtain ⟨⟨a, t, h1, h2⟩, ⟨t2, h3⟩⟩ := h
  have hlen : (setLast s0.parts a).length = s0.parts.length := setLast_length _ _
  have hfit : fitsS s s0.parts.length s0.larges.length (topAt s0) = true := by
    unfold fitsS
    rw [if_neg (by rw [h1, h3]; simp [hlen]; omega)]
    by_cases hn : s0.parts = []
    · rw [if_pos (by rw [hn]; rfl)]
      unfold topAt; rw [hn]; rfl
    · have hp : 0 < s0.parts.length := List.length_pos_iff.2 hn
      rw [if_neg (by omega)]
      have hg : s.parts.getD ((s0.parts.length : Int).toNat - 1) (0, 0, 0, 0) = ((lastP s0.parts).1, (lastP s0.parts).2.1, a, (lastP s0.parts).2.2.2) := by
        rw [← lastP_setLast s0.parts a hn]
        unfold lastP
        rw [h1, hlen, Int.toNat_natCast]
        simp only [List.getD, List.getElem?_append_left (show s0.parts.length - 1 < (setLast s0.parts a).length by omega)]
      rw [hg]
      have h4 := hc _ (last_mem hn)
      have h5 : topAt s0 = (lastP s0.parts).2.2.1 := rfl
      rw [Bool.and_eq_true, decide_eq_true_eq, decide_eq_true_eq]
      exact ⟨by rw [h5]; exact h4, h2⟩
  unfold rewS
  rw [if_pos hfit]
  congr 1
  congr 1
  have hcut : setTop (cutS s s0.parts.length s0.larges.length) (topAt s0) s0.obj s0.pad = s0 := by
    unfold setTop cutS
    simp only [Int.toNat_natCast]
    rw [h1, h3, List.take_left' hlen, List.take_left' rfl, setLast_setLast]
    have : setLast s0.parts (topAt s0) = s0.parts := setLast_self _
    rw [this]
  rw [hcut]
  split
  · rename_i hz
    simp only [List.cons.injEq] at hz
    obtain ⟨z1, z2, z3, z4, z5, _⟩ := hz
    have e1 : s0.parts = [] := List.length_eq_zero_iff.1 (by omega)
    have e2 : s0.larges = [] := List.length_eq_zero_iff.1 (by omega)
    obtain ⟨p, l, o, d⟩ := s0
    simp only at e1 e2 z4 z5
    subst e1 e2 z4 z5
    rfl
  · rfl
end Go.Proofs.YtamecmklcnohjaaGreat.Sep
namespace Go.Proofs.YtamecmklcnohjaaGreat.Sep
open Go.RowKit
set_option linter.unusedSimpArgs false
set_option linter.unusedVariables false
theorem AR.grow {P : Int} {B : Nat} {o : Int} {C C' : Co} {m m' : Mm} {s0 s s' : Sh} {oth : List (Int × Hd)} {size align at_ e : Int} (hR : RInv P B o C m.f s oth) (ho : 0 ≤ o ∧ o < 18446744073709551616) (h0 : 0 ≤ size) (h2 : 0 ≤ align) (h3 : align ≤ 18446744073709551615) (h : AR P C m s o size align C' m' s' at_ e) (hg : Grow s0 s) : Grow s0 s' := by
  have hsh := h.shadow hR ho h0 h2 h3
  have hd : ∀ x, cC x C + cS x s ≤ 1 := fun x => by
    have a1 := hR.K.part x
    have a2 := part_le1 (x := x) (P := C.P)
    rw [gr_app, cnt_append, gotR_cnt] at a1
    have a3 := cnt_nn x (gr oth)
    omega
  have := hg.alloc (size := size) (align := align) hR.K.ci (by rw [hR.hP]; exact hR.S) hd h0 h2
  rw [hsh] at this
  exact this
theorem RInv.curOk {P : Int} {B : Nat} {o : Int} {C : Co} {m : Int → Int} {s : Sh} {oth : List (Int × Hd)} (h : RInv P B o C m s oth) : CurOk s := fun p hp => by
  have h1 := h.S.pi.parts _ (List.mem_map.2 ⟨p, hp, rfl⟩)
  have h2 := h.po p hp
  have h3 := ofI_run h.P1.2 h1
  have h4 : ofI p.1 p.2.1 = (p.1 * 4096 + 32, (p.1 + p.2.1) * 4096) := h3
  rw [h4]
  exact h2.2.1
theorem grow_fits {s0 s : Sh} (h : Grow s0 s) (hc : CurOk s0) : fitsS s s0.parts.length s0.larges.length (topAt s0) = true ∧ setTop (cutS s s0.parts.length s0.larges.length) (topAt s0) s0.obj s0.pad = s0 := by
  have h1 := rew_back (C := ⟨0, [], fun _ => [], 0⟩) h hc
  have h2 : fitsS s s0.parts.length s0.larges.length (topAt s0) = true := by
    by_cases hf : fitsS s s0.parts.length s0.larges.length (topAt s0) = true
    · exact hf
    · unfold rewS at h1
      rw [if_neg hf] at h1
      cases h1
  refine ⟨h2, ?_⟩
  rw [rew_shadow h2] at h1
  simp only [Option.some.injEq, Prod.mk.injEq, true_and] at h1
  exact h1
end Go.Proofs.YtamecmklcnohjaaGreat.Sep
namespace Go.Proofs.YtamecmklcnohjaaGreat.Sep
open Go.RowKit
set_option linter.unusedSimpArgs false
set_option linter.unusedVariables false
theorem SL_true {L : List HP} {H : PH} (h : SL L H) : SL (pur True :: L) H := ⟨fun _ => none, H, fun _ => .inl rfl, fun _ => by simp, trivial, h⟩
theorem pv_fieldV {P : Program} {T ft fo bo f : Nat} {ty : TypeId} {e : Env} {x : Operand} {fl : List Field} {vs : List Value} {v : Value} {nm tag pkg : String} {emb : Bool} {dd : TypeDesc} [hu : TU P T (.struct fl.toArray)] (hfd : fl[f]? = some ⟨nm, ft, fo, emb, tag, pkg, bo⟩ := by rfl) (hft : TU P ft dd := by infer_instance) (hg : aggD dd = false := by rfl)
    (hx : ev e x = some (.agg vs.toArray) := by rfl) (hv : vs[fo]? = some v := by rfl) : PV P (.field T x f) ty e v := fun tm w pos aft h => by
  have h2 : (underlying T).run P w = .ok (.struct fl.toArray) w := run_und hu.out
  have h5 : fl.toArray[f]? = some ⟨nm, ft, fo, emb, tag, pkg, bo⟩ := by simpa using hfd
  have h6 : vs.toArray[fo]? = some v := by simpa using hv
  simp [execOp, Instr.field, ev_sound h hx, h2, h5, asAgg, part, run_isAgg hft.out, hg, hv]
section
variable {P : Program} {w0 : World} {e : Env} {L R : List HP} {ty : TypeId}
theorem dv_storeP {T s by' o : Nat} {x y : Operand} {b : Nat} {row row' vs : List Value} {T' : TypeId} {z : Value} [hi : TI P T z s by'] (hx : ev e x = some (.pointer (some ⟨b, o, none⟩)) := by rfl) (hy : ev e y = some (.agg vs.toArray) := by rfl)
    (hf : Find L (pt b (.cells row.toArray T' (0, 0))) R := by repeat (first | exact Find.here | apply Find.there)) (hl : vs.length = s := by rfl) (hr : (o + s ≤ row.length : Bool) = true := by rfl) (h1 : vs.all Value.oneCell' = true := by rfl) (hrow : row.take o ++ vs ++ row.drop (o + s) = row' := by rfl) :
    DV P w0 (.store T x y) ty e L (fun _ L' => L' = pt b (.cells row'.toArray T' (0, 0)) :: R) := dv_of_skip fun tm w pos aft h2 h3 => by
  have h3' := h3.find hf
  have hr' : o + s ≤ row.length := by simpa using hr
  have hrun := run_storeAt (P := P) (v := .agg vs.toArray) (o := o) hi (by simpa [Value.cells] using hl) (by simpa [Value.cells] using h1) h3'.block (by simpa using hr')
  have e1 : (row.toArray.toList.take o ++ (Value.agg vs.toArray).cells.toList ++ row.toArray.toList.drop (o + s)).toArray = row'.toArray := by
    simp [Value.cells, ← hrow]
  rw [e1] at hrun
  exact ⟨w.setRow b row'.toArray, _, by simp only [execOp, ev_sound h2 hx, ev_sound h2 hy, Sem.run_bind, hrun, Result.andThen_ok, Sem.run_pure], rfl, sat_setRow h3'⟩
end
structure Cur (P : Program) (b o : Nat) (en : Int) (A : Int → HP) : Prop where
  load : ∀ {w0 : World} {ty : TypeId} {e : Env} {L R : List HP} {x : Operand} {a : Int}, Find L (A a) R → ev e x = some (.pointer (some ⟨b, o, none⟩)) → RV P w0 (.load 126 x) ty e L (.agg #[.int .u64 a, .int .u64 en])
  load1 : ∀ {w0 : World} {ty : TypeId} {e : Env} {L R : List HP} {x : Operand} {a : Int}, Find L (A a) R → ev e x = some (.pointer (some ⟨b, o, none⟩)) → RV P w0 (.load 32 x) ty e L (.int .u64 a)
  store : ∀ {w0 : World} {ty : TypeId} {e : Env} {L R : List HP} {x y : Operand} {a a' : Int}, Find L (A a) R → ev e x = some (.pointer (some ⟨b, o, none⟩)) → ev e y = some (.agg #[.int .u64 a', .int .u64 en]) → DV P w0 (.store 126 x y) ty e L (fun _ L' => L' = A a' :: R)
  store1 : ∀ {w0 : World} {ty : TypeId} {e : Env} {L R : List HP} {x y : Operand} {a a' : Int}, Find L (A a) R → ev e x = some (.pointer (some ⟨b, o, none⟩)) → ev e y = some (.int .u64 a') → DV P w0 (.store 32 x y) ty e L (fun _ L' => L' = A a' :: R)
theorem Cur.cell (b : Nat) (en : Int) : Cur Tryz.prog b 0 en (fun a => pt b (.cells [.int .u64 a, .int .u64 en].toArray 126 (0, 0))) where
  load := fun hf hx => rv_loadW (hx := hx) (hf := hf)
  load1 := fun hf hx => rv_load (hx := hx) (hf := hf)
  store := fun hf hx hy => dv_storeW (hx := hx) (hy := hy) (hf := hf)
  store1 := fun hf hx hy => dv_store (hx := hx) (hy := hy) (hf := hf)
end Go.Proofs.YtamecmklcnohjaaGreat.Sep
namespace Go.Proofs.YtamecmklcnohjaaGreat.Sep
open Go.RowKit
set_option linter.unusedSimpArgs false
set_option linter.unusedVariables false
def eRP : E Part := ⟨3, true, fun p => [.int .u64 (ofI p.1 p.2.1).1, .int .u64 p.2.2.1, .int .u64 p.2.2.2], fun _ => rfl, fun _ _ h => by simp at h; rcases h with rfl | rfl | rfl <;> rfl, by decide, fun h => by cases h⟩
abbrev rgRow (s p0 p1 : Nat) (obj pad : Int) (a : Option Addr) (n c : Nat) : List Value := [.int .u64 obj, .int .u64 pad, .pointer (some ⟨s, 0, none⟩), .pointer (some ⟨p0, 0, none⟩), .pointer (some ⟨p1, 0, none⟩), .slice a n c]
def Rs (r s p0 p1 : Nat) (S : Sh) : HP := fun H => ∃ x : Option Addr × Nat, SL [pt r (.cells (rgRow s p0 p1 S.obj S.pad x.1 S.parts.length x.2).toArray 115 (0, 0)), Sl eRP x.1 x.2 S.parts] H
theorem Rs.open {r s p0 p1 : Nat} {S : Sh} : ∀ H, Rs r s p0 p1 S H → ∃ x : Option Addr × Nat, True ∧ SL [pt r (.cells (rgRow s p0 p1 S.obj S.pad x.1 S.parts.length x.2).toArray 115 (0, 0)), Sl eRP x.1 x.2 S.parts] H := fun H ⟨x, h⟩ => ⟨x, trivial, h⟩
theorem Rs.fold {r s p0 p1 c : Nat} {S : Sh} {a : Option Addr} : ∀ H, SL [pt r (.cells (rgRow s p0 p1 S.obj S.pad a S.parts.length c).toArray 115 (0, 0)), Sl eRP a c S.parts] H → Rs r s p0 p1 S H := fun H h => ⟨(a, c), h⟩
theorem Rs.foldN {r s p0 p1 c n : Nat} {S : Sh} {a : Option Addr} (h : n = S.parts.length) : ∀ H, SL [pt r (.cells (rgRow s p0 p1 S.obj S.pad a n c).toArray 115 (0, 0)), Sl eRP a c S.parts] H → Rs r s p0 p1 S H := by subst h; exact Rs.fold
def Rg (r s : Nat) (o : Int) (S : Sh) : HP := fun H => ∃ x : Nat × Nat, SL [Rs r s x.1 x.2 S, Pl x.1 s 0 o (S.parts.map runP), Pl x.2 s 1 o S.larges] H
theorem Rg.open {r s : Nat} {o : Int} {S : Sh} : ∀ H, Rg r s o S H → ∃ x : Nat × Nat, True ∧ SL [Rs r s x.1 x.2 S, Pl x.1 s 0 o (S.parts.map runP), Pl x.2 s 1 o S.larges] H := fun H ⟨x, h⟩ => ⟨x, trivial, h⟩
theorem Rg.fold {r s p0 p1 : Nat} {o : Int} {S : Sh} : ∀ H, SL [Rs r s p0 p1 S, Pl p0 s 0 o (S.parts.map runP), Pl p1 s 1 o S.larges] H → Rg r s o S H := fun H h => ⟨(p0, p1), h⟩
theorem Cur.rpart (b o c : Nat) (l : List Part) (hl : 0 < l.length) : Cur Tryz.prog b (o + (l.length - 1) * 3 + 1) (lastP l).2.2.2 (fun a => Sl eRP (some ⟨b, o, none⟩) c (setLast l a)) := by
  have hi : l.length - 1 < l.length := by omega
  have hg : ∀ a, (setLast l a)[l.length - 1]? = some ((lastP l).1, (lastP l).2.1, a, (lastP l).2.2.2) := fun a => by simp [setLast, hi]
  have hlen : ∀ a, l.length - 1 < (setLast l a).length := fun a => by rw [setLast_length]; exact hi
  have hgg : ∀ a (h : l.length - 1 < (setLast l a).length), (setLast l a)[l.length - 1] = ((lastP l).1, (lastP l).2.1, a, (lastP l).2.2.2) := fun a h => by simp [setLast]
  have hss : ∀ a a', (setLast l a).set (l.length - 1) ((lastP l).1, (lastP l).2.1, a', (lastP l).2.2.2) = setLast l a' := fun a a' => by simp [setLast]
  refine ⟨fun {_ _ _ _ _ _ a} hf hx => ?_, fun {_ _ _ _ _ _ a} hf hx => ?_, fun {w0 ty _ _ _ _ _ a a'} hf hx hy => ?_, fun {w0 ty _ _ _ _ _ a a'} hf hx hy => ?_⟩
  · exact rv_elS (E' := eRP) (i := l.length - 1) (f := 1) (xs := setLast l a) (vs := [.int .u64 a, .int .u64 (lastP l).2.2.2]) hf hx (hl := hlen a) (hv := by rw [hgg a]; rfl)
  · exact rv_elfG (E' := eRP) (l.length - 1) 1 _ (hf := hf) (hx := hx) (hget := hg a)
  · have := dv_putEl (w0 := w0) (ty := ty) (P := Tryz.prog) (T := 126) (E' := eRP) (i := l.length - 1) (s := 3) (f := 1) (xs := setLast l a) (vs := [.int .u64 a', .int .u64 (lastP l).2.2.2]) ((lastP l).1, (lastP l).2.1, a', (lastP l).2.2.2) hf hx hy rfl (fun u hu => by simp at hu; rcases hu with rfl | rfl <;> rfl) rfl rfl (hlen a) (by show 1 + 2 ≤ 3; omega) (by rw [hgg a]; rfl)
    rw [hss a a'] at this
    exact this
  · have := dv_putEl (w0 := w0) (ty := ty) (P := Tryz.prog) (T := 32) (E' := eRP) (i := l.length - 1) (s := 3) (f := 1) (xs := setLast l a) (vs := [.int .u64 a']) ((lastP l).1, (lastP l).2.1, a', (lastP l).2.2.2) hf hx hy rfl (fun u hu => by simp at hu; subst hu; rfl) rfl rfl (hlen a) (by show 1 + 1 ≤ 3; omega) (by rw [hgg a]; rfl)
    rw [hss a a'] at this
    exact this
set_option maxHeartbeats 8000000
attribute [local irreducible] X XE XO XD XDi XDa PV RV DV pt base Spec Sl Mp Keeps Pg Kc Pgs Spc Ck XL XLi Pl Rs Rg
def rtopV (r s p0 p1 : Nat) (S : Sh) (a : Option Addr) (c : Nat) : Value → List HP → Prop := fun v L => ∃ (cb o : Nat) (A : Int → HP) (G : HP), v = .pointer (some ⟨cb, o, none⟩) ∧ Cur Tryz.prog cb (o + 1) (topEnd S) A ∧
  (∀ at_ obj pad H, SL [pt r (.cells (rgRow s p0 p1 obj pad a S.parts.length c).toArray 115 (0, 0)), A at_, G] H → Rs r s p0 p1 (setTop S at_ obj pad) H) ∧
  L = [pt r (.cells (rgRow s p0 p1 S.obj S.pad a S.parts.length c).toArray 115 (0, 0)), A (topAt S), G]
theorem rtop_spec (r s p0 p1 : Nat) (S : Sh) (a : Option Addr) (c : Nat) (hl : S.parts.length ≤ 4611686018427387904) : Spec Tryz.prog 62 [.pointer (some ⟨r, 0, none⟩)] [pt r (.cells (rgRow s p0 p1 S.obj S.pad a S.parts.length c).toArray 115 (0, 0)), Sl eRP a c S.parts] (rtopV r s p0 p1 S a c) := by
  refine Spec.intro (IsEnt.out) Tryz.func62 rfl Tryz.ntmps62 (by simp) (fun w0 F => ?_)
  simp only [envOf, List.zipIdx, List.map, List.cons_append, List.nil_append, Nat.zero_add, Nat.reduceAdd]
  unfold rtopV
  (repeat refine Z ?_)
  refine X_cond rfl (fun h => ?_) (fun h => ?_)
  · have h0 : S.parts = [] := by
      have : ((S.parts.length : Int) == 0) = true := h
      exact List.length_eq_zero_iff.1 (by simpa using this)
    (repeat refine Z ?_)
    refine XO_dv dv_box (hk := ?_)
    rintro _ _ ⟨cb, rfl, rfl⟩
    (repeat refine Z ?_)
    refine XE_ret (.inl rfl) (tells_tmps rfl rfl) ⟨_, ⟨cb, 0, fun x => pt cb (.cells [.int .u64 0, .int .u64 x, .int .u64 0].toArray 128 (0, 0)), Sl eRP a c S.parts, rfl, ?_, ?_, rfl⟩, ?_⟩
    · have he : topEnd S = 0 := by unfold topEnd; rw [h0]; rfl
      rw [he]
      exact { load := fun hf hx => rv_loadS (hx := hx) (hf := hf), load1 := fun hf hx => rv_load (hx := hx) (hf := hf), store := fun hf hx hy => dv_storeP (hx := hx) (hy := hy) (hf := hf), store1 := fun hf hx hy => dv_store (hx := hx) (hy := hy) (hf := hf) }
    · intro at_ obj pad H hs
      have hst : setTop S at_ obj pad = ⟨S.parts, S.larges, obj, pad⟩ := by unfold setTop; rw [h0]; rfl
      rw [hst]
      refine Rs.fold (S := ⟨S.parts, S.larges, obj, pad⟩) (a := a) (c := c) H ?_
      refine (show ∀ H, SL _ H → SL _ H from ?_) H hs
      exact EN
    · have ht : topAt S = 0 := by unfold topAt; rw [h0]; rfl
      rw [ht]
      exact EN
  · have h0 : 0 < S.parts.length := by
      have : ((S.parts.length : Int) == 0) = false := h
      have : ¬ (S.parts.length : Int) = 0 := by simpa using this
      omega
    refine X_slopen (E' := eRP) (a := a) (c := c) (xs := S.parts) (by exact FDs) h0 ?_
    rintro qb o rfl
    (repeat refine Z ?_)
    (repeat refine ZD ?_)
    (refine XD_one (h := ?_); refine XDa_dvA (dv_of_rv (rv_of_pv pv_assign)) (hk := ?_); rintro _ _ ⟨rfl, rfl⟩; refine ⟨by exact KP, ?_⟩)
    (refine XD_end (h := ?_); (repeat refine Z ?_))
    have hto : ((S.parts.length : Int) - 1).toNat = S.parts.length - 1 := by omega
    have hself : setLast S.parts (topAt S) = S.parts := setLast_self _
    simp only [hto]
    refine XE_conv (fun _ => SL_true) ?_
    refine XE_ret (.inl rfl) (tells_tmps rfl rfl) ⟨_, ⟨qb, o + (S.parts.length - 1) * 3, fun x => Sl eRP (some ⟨qb, o, none⟩) c (setLast S.parts x), pur True, rfl, Cur.rpart qb o c S.parts h0, ?_, rfl⟩, ?_⟩
    · intro at_ obj pad H hs
      unfold setTop
      refine Rs.fold (S := ⟨setLast S.parts at_, S.larges, obj, pad⟩) (a := some ⟨qb, o, none⟩) (c := c) H ?_
      dsimp only
      rw [setLast_length]
      refine (show ∀ H, SL _ H → SL _ H from ?_) H hs
      exact EN
    · dsimp only
      rw [hself]
      exact EN
theorem rright_spec (size align : Int) (h0 : 0 ≤ size) (h2 : 0 ≤ align) (h3 : align ≤ 18446744073709551615) : Spec Tryz.prog 59 [.int .u64 size, .int .u64 align] [] (fun v L => v = .bool (decide (¬ badA size align)) ∧ L = []) := by
  refine Spec.intro (IsEnt.out) Tryz.func59 rfl Tryz.ntmps59 (by simp) (fun w0 F => ?_)
  simp only [envOf, List.zipIdx, List.map, List.cons_append, List.nil_append, Nat.zero_add, Nat.reduceAdd]
  have hB : decide (¬ badA size align) = (decide (0 < size) && (powB align && decide (align ≤ 4096))) := by
    rw [← need1_iff h2 h3]
    unfold badA
    by_cases hs : size = 0
    · simp [hs]
    · rw [decide_eq_true (show 0 < size by omega)]
      cases (needI 1 align).isSome <;> simp [hs]
  rw [hB]
  (repeat refine Z ?_)
  refine XO_either (hT := fun h => ?_) (hF := fun h => ?_) <;> simp only [decide_eq_true_eq, decide_eq_false_iff_not] at h
  · (repeat refine Z ?_)
    refine XO_call (pow_spec align h2 h3) (hk := ?_)
    rintro _ _ ⟨rfl, rfl⟩
    rw [decide_eq_true (show 0 < size by omega), Bool.true_and]
    cases hp : powB align with
    | true =>
      (repeat refine Z ?_)
      refine XE_ret (.inl rfl) (tells_tmps rfl rfl) ⟨_, ⟨rfl, rfl⟩, by exact EN⟩
    | false =>
      (repeat refine Z ?_)
      refine XE_ret (.inl rfl) (tells_tmps rfl rfl) ⟨_, ⟨rfl, rfl⟩, by exact EN⟩
  · rw [decide_eq_false (show ¬ 0 < size by omega), Bool.false_and]
    (repeat refine Z ?_)
    refine XE_ret (.inl rfl) (tells_tmps rfl rfl) ⟨_, ⟨rfl, rfl⟩, by exact EN⟩
theorem rmade_spec (r s p0 p1 cb o : Nat) (en : Int) (A : Int → HP) (hA : Cur Tryz.prog cb o en A) (a : Option Addr) (n c : Nat) (obj pad at_ size align : Int) {q : Int × Int × Int} (hf : fitI at_ en size align = some q) (g0 : 0 ≤ at_) (g1 : at_ ≤ 18446744073709551615) (g2 : 0 ≤ en) (g3 : en ≤ 18446744073709551615) (h0 : 0 ≤ size) (h1 : size ≤ 18446744073709551615) (h2 : 0 ≤ align) (h3 : align ≤ 18446744073709551615) :
    Spec Tryz.prog 61 [.pointer (some ⟨r, 0, none⟩), .pointer (some ⟨cb, o, none⟩), .int .u64 size, .int .u64 align] [pt r (.cells (rgRow s p0 p1 obj pad a n c).toArray 115 (0, 0)), A at_]
      (fun v L => v = .tuple #[.int .u64 q.1, .int .i64 0] ∧ L = [pt r (.cells (rgRow s p0 p1 (IntKind.u64.wrap (obj + size)) (IntKind.u64.wrap (pad + q.2.2)) a n c).toArray 115 (0, 0)), A q.2.1]) := by
  refine Spec.intro (IsEnt.out) Tryz.func61 rfl Tryz.ntmps61 (by simp) (fun w0 F => ?_)
  simp only [envOf, List.zipIdx, List.map, List.cons_append, List.nil_append, Nat.zero_add, Nat.reduceAdd]
  (repeat refine Z ?_)
  refine XO_rv (hA.load (by exact FDs) rfl) (hk := ?_)
  (repeat refine Z ?_)
  refine XO_call (fit_spec at_ en size align g0 g1 g2 g3 h0 h1 h2 h3) (hk := ?_)
  rintro _ _ ⟨rfl, rfl⟩
  obtain ⟨st, e2, p⟩ := q
  rw [hf]
  dsimp only
  (repeat refine Z ?_)
  (refine XO_dv dv_alloc (hk := ?_); rintro _ _ ⟨cb, rfl, rfl⟩; ((repeat refine Z ?_)); refine XO_dv0 dv_storeW (hk := ?_); rintro _ _ rfl; ((repeat refine Z ?_)))
  refine XO_dv0 (hA.store (a' := e2) (by exact FDs) rfl rfl) (hk := ?_)
  rintro _ _ rfl
  (repeat refine Z ?_)
  refine XO_dv0 dv_store (hk := ?_)
  rintro _ _ rfl
  (repeat refine Z ?_)
  refine XO_dv0 dv_store (hk := ?_)
  rintro _ _ rfl
  (repeat refine Z ?_)
  refine XE_ret (.inl rfl) (tells_tmps rfl rfl) ⟨_, ⟨rfl, rfl⟩, by exact EN⟩
end Go.Proofs.YtamecmklcnohjaaGreat.Sep
namespace Go.Proofs.YtamecmklcnohjaaGreat.Sep
open Go.RowKit
set_option linter.unusedSimpArgs false
set_option linter.unusedVariables false
theorem Rg.foldT {r s p0 p1 : Nat} {o : Int} {S : Sh} {a b c : Int} : ∀ H, SL [Rs r s p0 p1 (setTop S a b c), Pl p0 s 0 o (S.parts.map runP), Pl p1 s 1 o S.larges] H → Rg r s o (setTop S a b c) H := fun H h => by
  have e : (setTop S a b c).parts.map runP = S.parts.map runP := setLast_runP _ _
  refine Rg.fold (p0 := p0) (p1 := p1) H ?_
  rw [e]
  exact h
instance teq_cur : TEq Tryz.prog 126 [.u64, .u64] := ⟨_, Tryz.underlying126, by kernel_rfl, by kernel_rfl, ⟨by decide, rfl, Tryz.underlying32, by decide, rfl, Tryz.underlying32, trivial⟩⟩
set_option maxHeartbeats 8000000
attribute [local irreducible] X XE XO XD XDi XDa PV RV DV pt base Spec Sl Mp Keeps Pg Kc Pgs Spc Ck XL XLi Pl Rs Rg
theorem bleft_spec (c0 c1 : Int) (h0 : 0 < c0) (h1 : c0 ≤ c1) (h2 : c1 ≤ 18446744073709551615) : Spec Tryz.prog 67 [.agg #[.int .u64 c0, .int .u64 c1]] [] (fun v L => v = .int .u64 (c1 - c0) ∧ L = []) := by
  refine Spec.intro (IsEnt.out) Tryz.func67 rfl Tryz.ntmps67 (by simp) (fun w0 F => ?_)
  simp only [envOf, List.zipIdx, List.map, List.cons_append, List.nil_append, Nat.zero_add, Nat.reduceAdd]
  (repeat refine Z ?_)
  refine XO_dv dv_box (hk := ?_)
  rintro _ _ ⟨b, rfl, rfl⟩
  (repeat refine Z ?_)
  refine XO_pv (pv_eqRec [c0, c1] [0, 0]) (hk := ?_)
  (repeat refine Z ?_)
  refine XO_known false (hb := by simp; omega) (hk := ?_)
  (repeat refine Z ?_)
  refine X_cond rfl (fun h => ?_) (fun _ => ?_)
  · exfalso
    simp only [decide_eq_true_eq] at h
    omega
  (repeat refine Z ?_)
  refine XE_ret (.inl rfl) (tells_tmps rfl rfl) ⟨_, ⟨rfl, rfl⟩, by exact EN⟩
theorem rfits_spec (r s : Nat) (o : Int) (S : Sh) (size align : Int) (hS : ShOk S) (hl : S.parts.length ≤ 1048576) (h0 : 0 ≤ size) (h1 : size ≤ 18446744073709551615) (h2 : 0 ≤ align) (h3 : align ≤ 18446744073709551615) :
    Spec Tryz.prog 60 [.pointer (some ⟨r, 0, none⟩), .int .u64 size, .int .u64 align] [Rg r s o S]
      (fun v L => v = .bool (decide (¬ badA size align) && (fitI (topAt S) (topEnd S) size align).isSome) ∧ L = [Rg r s o S]) := by
  refine Spec.intro (IsEnt.out) Tryz.func60 rfl Tryz.ntmps60 (by simp) (fun w0 F => ?_)
  simp only [envOf, List.zipIdx, List.map, List.cons_append, List.nil_append, Nat.zero_add, Nat.reduceAdd]
  have htb := top_bd hS
  (repeat refine Z ?_)
  refine XO_call (rright_spec size align h0 h2 h3) (hk := ?_)
  rintro _ _ ⟨rfl, rfl⟩
  by_cases hb : badA size align
  · rw [decide_eq_false (fun hnb : ¬ badA size align => hnb hb)]
    (repeat refine Z ?_)
    refine X_cond rfl (fun _ => ?_) (fun h => by cases h)
    (repeat refine Z ?_)
    refine XE_ret (.inl rfl) (tells_tmps rfl rfl) ⟨_, ⟨rfl, rfl⟩, by exact EN⟩
  rw [decide_eq_true hb]
  (repeat refine Z ?_)
  refine X_cond rfl (fun h => by cases h) (fun _ => ?_)
  refine X_open .here Rg.open ?_
  rintro ⟨p0, p1⟩ -
  dsimp only [List.cons_append, List.nil_append]
  refine X_open (A := Rs r s p0 p1 S) (by exact FDs) Rs.open ?_
  rintro ⟨a, c⟩ -
  dsimp only [List.cons_append, List.nil_append]
  (repeat refine Z ?_)
  refine XO_call (rtop_spec r s p0 p1 S a c (by omega)) (hk := ?_)
  rintro _ _ ⟨cb, oo, A, G, rfl, hCur, hfold, rfl⟩
  (repeat refine Z ?_)
  refine XO_rv (hCur.load (by exact FDs) rfl) (hk := ?_)
  (repeat refine Z ?_)
  refine XO_call (fit_spec (topAt S) (topEnd S) size align htb.1 htb.2.1 htb.2.2.1 htb.2.2.2 h0 h1 h2 h3) (hk := ?_)
  rintro _ _ ⟨rfl, rfl⟩
  refine XO_fold (by exact FAs) (hfold (topAt S) S.obj S.pad) ?_
  rw [setTop_self]
  refine XO_fold (by exact FAs) (Rg.fold (r := r) (s := s) (o := o) (S := S) (p0 := p0) (p1 := p1)) ?_
  cases hf : fitI (topAt S) (topEnd S) size align with
  | none =>
    (repeat refine Z ?_)
    (refine XO_dv dv_alloc (hk := ?_); rintro _ _ ⟨cb, rfl, rfl⟩; ((repeat refine Z ?_)); refine XO_dv0 dv_storeW (hk := ?_); rintro _ _ rfl; ((repeat refine Z ?_)))
    refine XE_ret (.inl rfl) (tells_tmps rfl rfl) ⟨_, ⟨rfl, rfl⟩, by exact EN⟩
  | some q =>
    obtain ⟨st, e2, p⟩ := q
    (repeat refine Z ?_)
    (refine XO_dv dv_alloc (hk := ?_); rintro _ _ ⟨cb, rfl, rfl⟩; ((repeat refine Z ?_)); refine XO_dv0 dv_storeW (hk := ?_); rintro _ _ rfl; ((repeat refine Z ?_)))
    refine XE_ret (.inl rfl) (tells_tmps rfl rfl) ⟨_, ⟨rfl, rfl⟩, by exact EN⟩
end Go.Proofs.YtamecmklcnohjaaGreat.Sep
namespace Go.Proofs.YtamecmklcnohjaaGreat.Sep
open Go.RowKit
set_option linter.unusedSimpArgs false
set_option linter.unusedVariables false
theorem Rs.fold2 {r s p0 p1 c n : Nat} {ob pd : Int} {S : Sh} {a : Option Addr} (h : n = S.parts.length) (h1 : ob = S.obj) (h2 : pd = S.pad) : ∀ H, SL [pt r (.cells (rgRow s p0 p1 ob pd a n c).toArray 115 (0, 0)), Sl eRP a c S.parts] H → Rs r s p0 p1 S H := by subst h h1 h2; exact Rs.fold
theorem RInv.k1 {P : Int} {B : Nat} {o : Int} {C : Co} {m : Int → Int} {s : Sh} {oth : List (Int × Hd)} (h : RInv P B o C m s oth) : KInv C m (plH 1 o 0 s.larges ++ (plH 0 o 0 (s.parts.map runP) ++ oth)) := by
  refine h.K.perm ?_
  unfold gotR
  exact ((List.perm_append_comm).append_right oth).trans (List.Perm.of_eq (List.append_assoc _ _ _))
theorem RInv.k0 {P : Int} {B : Nat} {o : Int} {C : Co} {m : Int → Int} {s : Sh} {oth : List (Int × Hd)} (h : RInv P B o C m s oth) : KInv C m (plH 0 o 0 (s.parts.map runP) ++ (plH 1 o 0 s.larges ++ oth)) := by
  have := h.K
  unfold gotR at this
  rwa [List.append_assoc] at this
set_option maxHeartbeats 8000000
attribute [local irreducible] X XE XO XD XDi XDa PV RV DV pt base Spec Sl Mp Keeps Pg Kc Pgs Spc Ck XL XLi Pl Rs Rg
theorem ralloc_spec (r s sb : Nat) {P : Int} {B : Nat} {o : Int} {C C' : Co} {m m' : Mm} {S S' : Sh} {oth : List (Int × Hd)} {size align at_ e : Int} (hR : RInv P B o C m.f S oth) (ho : 0 ≤ o ∧ o < 18446744073709551616) (h0 : 0 ≤ size) (h1 : size ≤ 18446744073709551615) (h2 : 0 ≤ align) (h3 : align ≤ 18446744073709551615) (h : AR P C m S o size align C' m' S' at_ e) :
    Spec Tryz.prog 18 [.pointer (some ⟨r, 0, none⟩), .int .u64 size, .int .u64 align] [Rg r s o S, Ck s sb C, Spc sb P m]
      (fun v L => v = .tuple #[.int .u64 at_, .int .i64 e] ∧ L = [Rg r s o S', Ck s sb C', Spc sb P m']) := by
  refine Spec.intro (IsEnt.out) Tryz.func18 rfl Tryz.ntmps18 (by simp) (fun w0 F => ?_)
  simp only [envOf, List.zipIdx, List.map, List.cons_append, List.nil_append, Nat.zero_add, Nat.reduceAdd]
  have hlen := hR.len
  have hPb := hR.P1
  have htb := top_bd hR.S.ok
  have sfit := rfits_spec r s o S size align hR.S.ok hlen.1 h0 h1 h2 h3
  (repeat refine Z ?_)
  refine XO_call (rright_spec size align h0 h2 h3) (hk := ?_)
  rintro _ _ ⟨rfl, rfl⟩
  by_cases hb : badA size align
  · rw [decide_eq_false (fun hnb : ¬ badA size align => hnb hb)]
    cases h with
    | bad _ =>
      (repeat refine Z ?_)
      refine X_cond rfl (fun _ => ?_) (fun h => by cases h)
      (repeat refine Z ?_)
      refine XE_ret (.inl rfl) (tells_tmps rfl rfl) ⟨_, ⟨rfl, rfl⟩, by exact EN⟩
    | fit q hb' _ => exact absurd hb hb'
    | huge hb' _ _ => exact absurd hb hb'
    | full n big hb' _ _ _ => exact absurd hb hb'
    | big n pg hb' _ _ _ => exact absurd hb hb'
    | part n pg hb' _ _ _ => exact absurd hb hb'
  obtain ⟨a1, a2, a3, a4, a5⟩ := good_al h2 h3 hb
  rw [decide_eq_true hb, Bool.true_and] at sfit
  rw [decide_eq_true hb]
  (repeat refine Z ?_)
  refine X_cond rfl (fun h => by cases h) (fun _ => ?_)
  (repeat refine Z ?_)
  refine XO_call sfit (hk := ?_)
  rintro _ _ ⟨rfl, rfl⟩
  cases hf : fitI (topAt S) (topEnd S) size align with
  | some q =>
    cases h with
    | bad hb' => exact absurd hb' hb
    | huge _ hf' _ => rw [hf'] at hf; cases hf
    | full n big _ hf' _ _ => rw [hf'] at hf; cases hf
    | big n pg _ hf' _ _ => rw [hf'] at hf; cases hf
    | part n pg _ hf' _ _ => rw [hf'] at hf; cases hf
    | fit q' _ hf' =>
      rw [hf'] at hf
      cases hf
      (repeat refine Z ?_)
      refine X_cond rfl (fun _ => ?_) (fun h => by cases h)
      refine X_open .here Rg.open ?_
      rintro ⟨p0, p1⟩ -
      dsimp only [List.cons_append, List.nil_append]
      refine X_open (A := Rs r s p0 p1 S) (by exact FDs) Rs.open ?_
      rintro ⟨a, c⟩ -
      dsimp only [List.cons_append, List.nil_append]
      (repeat refine Z ?_)
      refine XO_call (rtop_spec r s p0 p1 S a c (by omega)) (hk := ?_)
      rintro _ _ ⟨cb, oo, A, G, rfl, hCur, hfold, rfl⟩
      (repeat refine Z ?_)
      refine XO_call (rmade_spec r s p0 p1 cb (oo + 1) (topEnd S) A hCur a S.parts.length c S.obj S.pad (topAt S) size align hf' htb.1 htb.2.1 htb.2.2.1 htb.2.2.2 h0 h1 h2 h3) (hk := ?_)
      rintro _ _ ⟨rfl, rfl⟩
      refine XO_fold (by exact FAs) (hfold q.2.1 _ _) ?_
      refine XO_fold (by exact FAs) (Rg.foldT (r := r) (s := s) (o := o) (S := S) (p0 := p0) (p1 := p1)) ?_
      (repeat refine Z ?_)
      refine XE_ret (.inl rfl) (tells_tmps rfl rfl) ⟨_, ⟨rfl, rfl⟩, by exact EN⟩
  | none =>
    (repeat refine Z ?_)
    refine X_cond rfl (fun h => by cases h) (fun _ => ?_)
    (repeat refine Z ?_)
    refine XO_call (chunk_spec size align h0 h1 h2 h3) (hk := ?_)
    rintro _ _ ⟨rfl, rfl⟩
    cases h with
    | bad hb' => exact absurd hb' hb
    | fit q' _ hf' => rw [hf'] at hf; cases hf
    | huge _ _ hc =>
      generalize chunkI size align = z at hc ⊢
      obtain ⟨n, big, ok⟩ := z
      obtain rfl : ok = false := hc
      (repeat refine Z ?_)
      refine X_cond rfl (fun _ => ?_) (fun h => by cases h)
      (repeat refine Z ?_)
      refine XE_ret (.inl rfl) (tells_tmps rfl rfl) ⟨_, ⟨rfl, rfl⟩, by exact EN⟩
    | full n big _ _ hc hz =>
      obtain ⟨r1, r2, r3, r4, r5⟩ := rnd_chunk h0 h2 hc
      rw [hc]
      (repeat refine Z ?_)
      refine X_cond rfl (fun h => by cases h) (fun _ => ?_)
      refine X_open .here Rg.open ?_
      rintro ⟨p0, p1⟩ -
      dsimp only [List.cons_append, List.nil_append]
      refine X_open (A := Rs r s p0 p1 S) (by exact FDs) Rs.open ?_
      rintro ⟨a, c⟩ -
      dsimp only [List.cons_append, List.nil_append]
      (repeat refine Z ?_)
      cases big with
      | false =>
        refine X_cond rfl (fun h => by cases h) (fun _ => ?_)
        (repeat refine Z ?_)
        have sp := ppush_err p0 s sb (n := n) (rs := S.parts.map runP) (by decide) (kget_no s sb (m := m) (k := 0) (o := o) hR.K.ci.ok hR.hP r2 (by rw [r1]; exact hz))
        refine XO_call sp (hk := ?_)
        rintro _ _ ⟨rfl, rfl⟩
        (repeat refine Z ?_)
        refine X_cond rfl (fun _ => ?_) (fun h => by cases h)
        (repeat refine Z ?_)
        refine XE_fold (by exact FAs) (Rs.fold (S := S)) ?_
        refine XE_fold (by exact FAs) (Rg.fold (S := S)) ?_
        refine XE_ret (.inl rfl) (tells_tmps rfl rfl) ⟨_, ⟨rfl, rfl⟩, by exact EN⟩
      | true =>
        refine X_cond rfl (fun _ => ?_) (fun h => by cases h)
        (repeat refine Z ?_)
        have sp := ppush_err p1 s sb (n := n) (rs := S.larges) (by decide) (kget_no s sb (m := m) (k := 1) (o := o) hR.K.ci.ok hR.hP r3 (by rw [r1]; exact hz))
        refine XO_call sp (hk := ?_)
        rintro _ _ ⟨rfl, rfl⟩
        (repeat refine Z ?_)
        refine X_cond rfl (fun _ => ?_) (fun h => by cases h)
        (repeat refine Z ?_)
        refine XE_fold (by exact FAs) (Rs.fold (S := S)) ?_
        refine XE_fold (by exact FAs) (Rg.fold (S := S)) ?_
        refine XE_ret (.inl rfl) (tells_tmps rfl rfl) ⟨_, ⟨rfl, rfl⟩, by exact EN⟩
    | big n pg _ _ hc hz =>
      obtain ⟨r1, r2, r3, r4, r5⟩ := rnd_chunk h0 h2 hc
      have hz0 : (getC C (rnd n)).2.2 = 0 := by rw [r1, hz]
      have sp := fun p1 => ppush_ok p1 s sb hR.k1 hR.hP ho r3 hz0 hlen.2
      have hr : RunOk P (pg, n) := by
        have := get_hr hR.K n 1 o ho r3 hz0
        rw [r1, hz, hR.hP] at this
        exact this
      obtain ⟨cf, -, -, -⟩ := chunk_fit h0 h2 h3 hb hc hPb.2 hr
      have hoe := ofI_run hPb.2 hr
      rw [r1, hz] at sp
      simp only at sp
      rw [hoe] at cf
      simp only at cf
      unfold RunOk at hr
      simp only at hr
      rw [hc]
      (repeat refine Z ?_)
      refine X_cond rfl (fun h => by cases h) (fun _ => ?_)
      refine X_open .here Rg.open ?_
      rintro ⟨p0, p1⟩ -
      dsimp only [List.cons_append, List.nil_append]
      refine X_open (A := Rs r s p0 p1 S) (by exact FDs) Rs.open ?_
      rintro ⟨a, c⟩ -
      dsimp only [List.cons_append, List.nil_append]
      (repeat refine Z ?_)
      refine X_cond rfl (fun _ => ?_) (fun h => by cases h)
      (repeat refine Z ?_)
      refine XO_call (sp p1) (hk := ?_)
      rintro _ _ ⟨rfl, rfl⟩
      generalize pushM P m 1 o (lastL 0 S.larges) pg n = m1
      generalize (getC C n).1 = C1
      (repeat refine Z ?_)
      refine X_cond rfl (fun h => by cases h) (fun _ => ?_)
      (repeat refine Z ?_)
      refine XO_call (bof_spec pg n) (hk := ?_)
      rintro _ _ ⟨rfl, rfl⟩
      rw [hoe]
      (repeat refine Z ?_)
      refine XO_dv dv_alloc (hk := ?_)
      rintro _ _ ⟨cb, rfl, rfl⟩
      (repeat refine Z ?_)
      refine XO_dv0 dv_storeW (hk := ?_)
      rintro _ _ rfl
      (repeat refine Z ?_)
      (repeat refine ZD ?_)
      refine XD_one (h := ?_)
      refine XDa_dvA (dv_call (kspace_spec s sb C1)) (hk := ?_)
      (rintro _ _ ⟨_, ⟨rfl, rfl⟩, rfl⟩; refine ⟨by exact KP, ?_⟩)
      (repeat refine ZD ?_)
      refine XD_one (h := ?_)
      refine XDa_dvA (dv_call (bleft_spec (pg * 4096 + 32) ((pg + n) * 4096) (by omega) (by omega) (by omega))) (hk := ?_)
      (rintro _ _ ⟨_, ⟨rfl, rfl⟩, rfl⟩; refine ⟨by exact KP, ?_⟩)
      (repeat refine ZD ?_)
      have hs := Zero_spec sb P m1 (pg * 4096 + 32) ((pg + n) * 4096 - (pg * 4096 + 32)) (by omega) hPb.2 (by omega) (by omega) (by omega) (by omega)
      unfold zeroV at hs
      rw [if_pos (by omega)] at hs
      refine XD_one (h := ?_)
      refine XDa_dvA (dv_call hs) (hk := ?_)
      (rintro _ _ ⟨_, ⟨rfl, rfl⟩, rfl⟩; refine ⟨by exact KP, ?_⟩)
      rw [show (pg + n) * 4096 - (pg * 4096 + 32) = n * 4096 - 32 from by omega]
      (refine XD_end (h := ?_); (repeat refine Z ?_))
      refine X_cond rfl (fun _ => ?_) (fun h => by cases h)
      (repeat refine Z ?_)
      refine XO_call (rmade_spec r s p0 p1 cb 0 ((pg + n) * 4096) (fun x => pt cb (.cells [.int .u64 x, .int .u64 ((pg + n) * 4096)].toArray 126 (0, 0))) (Cur.cell cb _) a S.parts.length c S.obj S.pad (pg * 4096 + 32) size align cf (by omega) (by omega) (by omega) (by omega) h0 h1 h2 h3) (hk := ?_)
      rintro _ _ ⟨rfl, rfl⟩
      (repeat refine Z ?_)
      refine XE_fold (by exact FAs) (Rs.fold2 (S := ⟨S.parts, S.larges ++ [(pg, n)], IntKind.u64.wrap (S.obj + size), IntKind.u64.wrap (S.pad + (-32) % align)⟩) (n := S.parts.length) rfl rfl rfl) ?_
      refine XE_fold (by exact FAs) (Rg.fold (S := ⟨S.parts, S.larges ++ [(pg, n)], IntKind.u64.wrap (S.obj + size), IntKind.u64.wrap (S.pad + (-32) % align)⟩) (p0 := p0) (p1 := p1)) ?_
      refine XE_ret (.inl rfl) (tells_tmps rfl rfl) ⟨_, ⟨rfl, rfl⟩, by exact EN⟩
    | part n pg _ _ hc hz =>
      obtain ⟨r1, r2, r3, r4, r5⟩ := rnd_chunk h0 h2 hc
      have hz0 : (getC C (rnd n)).2.2 = 0 := by rw [r1, hz]
      have sp := fun p0 => ppush_ok p0 s sb hR.k0 hR.hP ho r2 hz0 (by simp; exact hlen.1)
      have hr : RunOk P (pg, n) := by
        have := get_hr hR.K n 0 o ho r2 hz0
        rw [r1, hz, hR.hP] at this
        exact this
      obtain ⟨cf, -, -, -⟩ := chunk_fit h0 h2 h3 hb hc hPb.2 hr
      have hoe := ofI_run hPb.2 hr
      rw [r1, hz] at sp
      simp only at sp
      rw [hoe] at cf
      simp only at cf
      have hr' := hr
      unfold RunOk at hr
      simp only at hr
      rw [hc]
      (repeat refine Z ?_)
      refine X_cond rfl (fun h => by cases h) (fun _ => ?_)
      refine X_open .here Rg.open ?_
      rintro ⟨p0, p1⟩ -
      dsimp only [List.cons_append, List.nil_append]
      refine X_open (A := Rs r s p0 p1 S) (by exact FDs) Rs.open ?_
      rintro ⟨a, c⟩ -
      dsimp only [List.cons_append, List.nil_append]
      (repeat refine Z ?_)
      refine X_cond rfl (fun h => by cases h) (fun _ => ?_)
      (repeat refine Z ?_)
      refine XO_call (sp p0) (hk := ?_)
      rintro _ _ ⟨rfl, rfl⟩
      generalize pushM P m 0 o (lastL 0 (S.parts.map runP)) pg n = m1
      generalize (getC C n).1 = C1
      (repeat refine Z ?_)
      refine X_cond rfl (fun h => by cases h) (fun _ => ?_)
      (repeat refine Z ?_)
      refine XO_call (bof_spec pg n) (hk := ?_)
      rintro _ _ ⟨rfl, rfl⟩
      rw [hoe]
      (repeat refine Z ?_)
      refine XO_dv dv_alloc (hk := ?_)
      rintro _ _ ⟨cb, rfl, rfl⟩
      (repeat refine Z ?_)
      refine XO_dv0 dv_storeW (hk := ?_)
      rintro _ _ rfl
      (repeat refine Z ?_)
      (repeat refine ZD ?_)
      refine XD_one (h := ?_)
      refine XDa_dvA (dv_call (kspace_spec s sb C1)) (hk := ?_)
      (rintro _ _ ⟨_, ⟨rfl, rfl⟩, rfl⟩; refine ⟨by exact KP, ?_⟩)
      (repeat refine ZD ?_)
      refine XD_one (h := ?_)
      refine XDa_dvA (dv_call (bleft_spec (pg * 4096 + 32) ((pg + n) * 4096) (by omega) (by omega) (by omega))) (hk := ?_)
      (rintro _ _ ⟨_, ⟨rfl, rfl⟩, rfl⟩; refine ⟨by exact KP, ?_⟩)
      (repeat refine ZD ?_)
      have hs := Zero_spec sb P m1 (pg * 4096 + 32) ((pg + n) * 4096 - (pg * 4096 + 32)) (by omega) hPb.2 (by omega) (by omega) (by omega) (by omega)
      unfold zeroV at hs
      rw [if_pos (by omega)] at hs
      refine XD_one (h := ?_)
      refine XDa_dvA (dv_call hs) (hk := ?_)
      (rintro _ _ ⟨_, ⟨rfl, rfl⟩, rfl⟩; refine ⟨by exact KP, ?_⟩)
      rw [show (pg + n) * 4096 - (pg * 4096 + 32) = n * 4096 - 32 from by omega]
      (refine XD_end (h := ?_); (repeat refine Z ?_))
      refine X_cond rfl (fun h => by cases h) (fun _ => ?_)
      (repeat refine Z ?_)
      (repeat refine ZD ?_)
      refine XDi_pvA (pv_buildG [.int .u64 (pg * 4096 + 32), .int .u64 (pg * 4096 + 32), .int .u64 ((pg + n) * 4096)]) (h := ?_)
      (repeat refine ZD ?_)
      have hcells : eRP.cells (pg, n, pg * 4096 + 32, (pg + n) * 4096) = [.int .u64 (pg * 4096 + 32), .int .u64 (pg * 4096 + 32), .int .u64 ((pg + n) * 4096)] := by
        show [Value.int .u64 (ofI pg n).1, _, _] = _
        rw [hoe]
      refine XD_one (h := ?_)
      refine XDa_dvA (dv_lit (E' := eRP) [(pg, n, pg * 4096 + 32, (pg + n) * 4096)] (hx := by show _ = [Value.agg #[.int .u64 (ofI pg n).1, _, _]]; rw [hoe])) (hk := ?_)
      rintro _ _ ⟨lb, rfl, rfl⟩
      refine ⟨by exact KP, ?_⟩
      (repeat refine ZD ?_)
      refine XD_one (h := ?_)
      refine XDa_dvA (dv_append (E' := eRP) (xs := S.parts) (ys := [(pg, n, pg * 4096 + 32, (pg + n) * 4096)]) (A := Sl eRP (some ⟨lb, 0, none⟩) 1 [(pg, n, pg * 4096 + 32, (pg + n) * 4096)]) (a := a) (a2 := some ⟨lb, 0, none⟩) (c := c) (c2 := 1) (hv := Sl.view) (hb := by simp; omega)) (hk := ?_)
      rintro _ _ ⟨a3, c3, rfl, rfl⟩
      refine ⟨by exact KP, ?_⟩
      (repeat refine ZD ?_)
      refine XD_one (h := ?_)
      refine XDa_dvk0 dv_store (K := _) (hk := ?_)
      (rintro _ _ rfl; refine ⟨by exact KP, ?_⟩)
      (refine XD_end (h := ?_); (repeat refine Z ?_))
      have htA : topAt ⟨S.parts ++ [(pg, n, pg * 4096 + 32, (pg + n) * 4096)], S.larges, S.obj, S.pad⟩ = pg * 4096 + 32 := by unfold topAt; simp only; rw [lastP_append]
      have htE : topEnd ⟨S.parts ++ [(pg, n, pg * 4096 + 32, (pg + n) * 4096)], S.larges, S.obj, S.pad⟩ = (pg + n) * 4096 := by unfold topEnd; simp only; rw [lastP_append]
      have hst : ∀ x y z, setTop ⟨S.parts ++ [(pg, n, pg * 4096 + 32, (pg + n) * 4096)], S.larges, S.obj, S.pad⟩ x y z = ⟨S.parts ++ [(pg, n, x, (pg + n) * 4096)], S.larges, y, z⟩ := fun x y z => by unfold setTop; simp only; rw [setLast_app]
      have hmp : ∀ x : Int, (S.parts ++ [(pg, n, x, (pg + n) * 4096)]).map runP = S.parts.map runP ++ [(pg, n)] := fun x => by simp [runP]
      have hsl : (⟨S.parts ++ [(pg, n, pg * 4096 + 32, (pg + n) * 4096)], S.larges, S.obj, S.pad⟩ : Sh).parts.length ≤ 4611686018427387904 := by simp; omega
      refine XO_call (rtop_spec r s p0 p1 ⟨S.parts ++ [(pg, n, pg * 4096 + 32, (pg + n) * 4096)], S.larges, S.obj, S.pad⟩ a3 c3 hsl) (hk := ?_)
      rintro _ _ ⟨cb2, o2, A2, G2, rfl, hCur2, hfold2, rfl⟩
      rw [htA]
      rw [htE] at hCur2
      (repeat refine Z ?_)
      refine XO_call (rmade_spec r s p0 p1 cb2 (o2 + 1) ((pg + n) * 4096) A2 hCur2 a3 _ c3 S.obj S.pad (pg * 4096 + 32) size align cf (by omega) (by omega) (by omega) (by omega) h0 h1 h2 h3) (hk := ?_)
      rintro _ _ ⟨rfl, rfl⟩
      refine XO_fold (by exact FAs) (hfold2 (pg * 4096 + 32 + (-32) % align + size) _ _) ?_
      rw [hst]
      rw [← hmp (pg * 4096 + 32 + (-32) % align + size)]
      refine XO_fold (by exact FAs) (Rg.fold (r := r) (s := s) (o := o) (S := ⟨S.parts ++ [(pg, n, pg * 4096 + 32 + (-32) % align + size, (pg + n) * 4096)], S.larges, IntKind.u64.wrap (S.obj + size), IntKind.u64.wrap (S.pad + (-32) % align)⟩) (p0 := p0) (p1 := p1)) ?_
      (repeat refine Z ?_)
      refine XE_ret (.inl rfl) (tells_tmps rfl rfl) ⟨_, ⟨rfl, rfl⟩, by exact EN⟩
end Go.Proofs.YtamecmklcnohjaaGreat.Sep
namespace Go.Proofs.YtamecmklcnohjaaGreat.Sep
open Go.RowKit
set_option linter.unusedSimpArgs false
set_option linter.unusedVariables false
set_option maxHeartbeats 8000000
attribute [local irreducible] X XE XO XD XDi XDa PV RV DV pt base Spec Sl Mp Keeps Pg Kc Pgs Spc Ck XL XLi Pl Rs Rg
abbrev markV (S : Sh) : Value := .agg #[.int .i64 (S.parts.length : Int), .int .i64 (S.larges.length : Int), .int .u64 (topAt S), .int .u64 S.obj, .int .u64 S.pad]
theorem rmark_spec (r s : Nat) (o : Int) (S : Sh) (hl : S.parts.length ≤ 1048576) (hl2 : S.larges.length ≤ 1048576) : Spec Tryz.prog 20 [.pointer (some ⟨r, 0, none⟩)] [Rg r s o S] (fun v L => v = markV S ∧ L = [Rg r s o S]) := by
  refine Spec.intro (IsEnt.out) Tryz.func20 rfl Tryz.ntmps20 (by simp) (fun w0 F => ?_)
  simp only [envOf, List.zipIdx, List.map, List.cons_append, List.nil_append, Nat.zero_add, Nat.reduceAdd]
  (repeat refine Z ?_)
  refine XO_dv dv_alloc (hk := ?_)
  rintro _ _ ⟨gb, rfl, rfl⟩
  (repeat refine Z ?_)
  refine X_cond rfl (fun h => by cases h) (fun _ => ?_)
  refine X_open (A := Rg r s o S) (by exact FDs) Rg.open ?_
  rintro ⟨p0, p1⟩ -
  dsimp only [List.cons_append, List.nil_append]
  refine X_open (A := Rs r s p0 p1 S) (by exact FDs) Rs.open ?_
  rintro ⟨a, c⟩ -
  dsimp only [List.cons_append, List.nil_append]
  (repeat refine Z ?_)
  (repeat refine ZD ?_)
  refine XD_one (h := ?_)
  refine XDa_dvA (dv_call (plen_spec p1 s 1 o S.larges)) (hk := ?_)
  (rintro _ _ ⟨_, ⟨rfl, rfl⟩, rfl⟩; refine ⟨by exact KP, ?_⟩)
  (repeat refine ZD ?_)
  refine XD_one (h := ?_)
  refine XDa_dvA (dv_call (rtop_spec r s p0 p1 S a c (by omega))) (hk := ?_)
  rintro _ _ ⟨_, ⟨cb, oo, A, G, rfl, hCur, hfold, rfl⟩, rfl⟩
  refine ⟨by exact KP, ?_⟩
  (repeat refine ZD ?_)
  refine XDi_rvA (hCur.load1 (by exact FDs) rfl) (h := ?_)
  (repeat refine ZD ?_)
  refine XD_one (h := ?_)
  refine XDa_dvk0 dv_storeW (K := _) (hk := ?_)
  (rintro _ _ rfl; refine ⟨by exact KP, ?_⟩)
  (refine XD_end (h := ?_); (repeat refine Z ?_))
  refine XE_fold (by exact FAs) (hfold (topAt S) S.obj S.pad) ?_
  rw [setTop_self]
  refine XE_fold (by exact FAs) (Rg.fold (r := r) (s := s) (o := o) (S := S) (p0 := p0) (p1 := p1)) ?_
  refine XE_ret (.inl rfl) (tells_cell rfl) ⟨_, ⟨rfl, rfl⟩, by exact EN⟩
theorem rcheck_spec (r s : Nat) (o : Int) (S : Sh) (mc ml at_ ob pd : Int) (hl : S.parts.length ≤ 1048576) (hl2 : S.larges.length ≤ 1048576) : Spec Tryz.prog 73 [.pointer (some ⟨r, 0, none⟩), .agg #[.int .i64 mc, .int .i64 ml, .int .u64 at_, .int .u64 ob, .int .u64 pd]] [Rg r s o S] (fun v L => v = .bool (fitsS S mc ml at_) ∧ L = [Rg r s o S]) := by
  refine Spec.intro (IsEnt.out) Tryz.func73 rfl Tryz.ntmps73 (by simp) (fun w0 F => ?_)
  simp only [envOf, List.zipIdx, List.map, List.cons_append, List.nil_append, Nat.zero_add, Nat.reduceAdd]
  refine X_open .here Rg.open ?_
  rintro ⟨p0, p1⟩ -
  dsimp only [List.cons_append, List.nil_append]
  refine X_open (A := Rs r s p0 p1 S) (by exact FDs) Rs.open ?_
  rintro ⟨a, c⟩ -
  dsimp only [List.cons_append, List.nil_append]
  (repeat refine Z ?_)
  refine XO_dv dv_box (hk := ?_)
  rintro _ _ ⟨b3, rfl, rfl⟩
  (repeat refine Z ?_)
  (repeat refine ZD ?_)
  refine XDi_either (hT := fun h => ?_) (hF := fun h => ?_) <;> simp only [decide_eq_true_eq, decide_eq_false_iff_not] at h
  · have hF : fitsS S mc ml at_ = false := by unfold fitsS; rw [if_pos (by omega)]
    rw [hF]
    (repeat refine ZD ?_)
    (refine XD_head (h := ?_); first | refine XDi_gF (h := ?_) | refine XDi_gU (h := ?_))
    (repeat refine ZD ?_)
    (refine XD_end (h := ?_); (repeat refine Z ?_))
    refine X_cond rfl (fun _ => ?_) (fun h => by cases h)
    (repeat refine Z ?_)
    refine XE_fold (by exact FAs) (Rs.fold (S := S)) ?_
    refine XE_fold (by exact FAs) (Rg.fold (S := S)) ?_
    refine XE_ret (.inl rfl) (tells_tmps rfl rfl) ⟨_, ⟨rfl, rfl⟩, by exact EN⟩
  (repeat refine ZD ?_)
  refine XDi_either (hT := fun h => ?_) (hF := fun h => ?_) <;> simp only [decide_eq_true_eq, decide_eq_false_iff_not] at h
  · have hF : fitsS S mc ml at_ = false := by unfold fitsS; rw [if_pos (by omega)]
    rw [hF]
    (repeat refine ZD ?_)
    (refine XD_head (h := ?_); first | refine XDi_gF (h := ?_) | refine XDi_gU (h := ?_))
    (repeat refine ZD ?_)
    (refine XD_end (h := ?_); (repeat refine Z ?_))
    refine X_cond rfl (fun _ => ?_) (fun h => by cases h)
    (repeat refine Z ?_)
    refine XE_fold (by exact FAs) (Rs.fold (S := S)) ?_
    refine XE_fold (by exact FAs) (Rg.fold (S := S)) ?_
    refine XE_ret (.inl rfl) (tells_tmps rfl rfl) ⟨_, ⟨rfl, rfl⟩, by exact EN⟩
  (repeat refine ZD ?_)
  refine XDi_either (hT := fun h => ?_) (hF := fun h => ?_) <;> simp only [decide_eq_true_eq, decide_eq_false_iff_not] at h
  · have hF : fitsS S mc ml at_ = false := by unfold fitsS; rw [if_pos (by omega)]
    rw [hF]
    (repeat refine ZD ?_)
    (refine XD_head (h := ?_); first | refine XDi_gF (h := ?_) | refine XDi_gU (h := ?_))
    (repeat refine ZD ?_)
    (refine XD_end (h := ?_); (repeat refine Z ?_))
    refine X_cond rfl (fun _ => ?_) (fun h => by cases h)
    (repeat refine Z ?_)
    refine XE_fold (by exact FAs) (Rs.fold (S := S)) ?_
    refine XE_fold (by exact FAs) (Rg.fold (S := S)) ?_
    refine XE_ret (.inl rfl) (tells_tmps rfl rfl) ⟨_, ⟨rfl, rfl⟩, by exact EN⟩
  (repeat refine ZD ?_)
  refine XD_one (h := ?_)
  refine XDa_dvA (dv_call (plen_spec p1 s 1 o S.larges)) (hk := ?_)
  (rintro _ _ ⟨_, ⟨rfl, rfl⟩, rfl⟩; refine ⟨by exact KP, ?_⟩)
  (repeat refine ZD ?_)
  (refine XD_end (h := ?_); (repeat refine Z ?_))
  refine X_cond rfl (fun h => ?_) (fun h => ?_) <;> simp only [decide_eq_true_eq, decide_eq_false_iff_not] at h
  · have hF : fitsS S mc ml at_ = false := by unfold fitsS; rw [if_pos (by omega)]
    rw [hF]
    (repeat refine Z ?_)
    refine XE_fold (by exact FAs) (Rs.fold (S := S)) ?_
    refine XE_fold (by exact FAs) (Rg.fold (S := S)) ?_
    refine XE_ret (.inl rfl) (tells_tmps rfl rfl) ⟨_, ⟨rfl, rfl⟩, by exact EN⟩
  have hbad : ¬ (mc < 0 ∨ (S.parts.length : Int) < mc ∨ ml < 0 ∨ (S.larges.length : Int) < ml) := by omega
  (repeat refine Z ?_)
  refine X_cond rfl (fun h => ?_) (fun h => ?_)
  · have h0 : mc = 0 := by simpa using h
    have hF : fitsS S mc ml at_ = (at_ == 0) := by unfold fitsS; rw [if_neg hbad, if_pos h0]
    rw [hF]
    (repeat refine Z ?_)
    refine XE_fold (by exact FAs) (Rs.fold (S := S)) ?_
    refine XE_fold (by exact FAs) (Rg.fold (S := S)) ?_
    refine XE_ret (.inl rfl) (tells_tmps rfl rfl) ⟨_, ⟨rfl, rfl⟩, by exact EN⟩
  · have h0 : ¬ mc = 0 := by simpa using h
    have hi : (mc - 1).toNat < S.parts.length := by omega
    have hg : S.parts.getD (mc.toNat - 1) (0, 0, 0, 0) = S.parts[(mc - 1).toNat] := by
      simp only [List.getD, show mc.toNat - 1 = (mc - 1).toNat from by omega, List.getElem?_eq_getElem hi, Option.getD_some]
    have hF : fitsS S mc ml at_ = (decide ((ofI S.parts[(mc - 1).toNat].1 S.parts[(mc - 1).toNat].2.1).1 ≤ at_) && decide (at_ ≤ S.parts[(mc - 1).toNat].2.2.1)) := by unfold fitsS; rw [if_neg hbad, if_neg h0, hg]
    rw [hF]
    have hget : S.parts[(mc - 1).toNat]? = some S.parts[(mc - 1).toNat] := List.getElem?_eq_getElem hi
    generalize S.parts[(mc - 1).toNat]'hi = q at hg hF hget ⊢
    refine X_slopen (E' := eRP) (a := a) (c := c) (xs := S.parts) (by exact FDs) (by omega) ?_
    rintro qb qo rfl
    (repeat refine Z ?_)
    (repeat refine ZD ?_)
    refine XD_one (h := ?_)
    refine XDa_dvA (dv_alloc (row := [.int .u64 0, .int .u64 0, .int .u64 0])) (hk := ?_)
    rintro _ _ ⟨b5, rfl, rfl⟩
    refine ⟨by exact KP, ?_⟩
    (repeat refine ZD ?_)
    refine XD_one (h := ?_)
    refine XDa_dvk0 (dv_storeW (vs := [.int .u64 (ofI q.1 q.2.1).1, .int .u64 q.2.2.1, .int .u64 q.2.2.2])) (K := _) (hk := ?_)
    (rintro _ _ rfl; refine ⟨by exact KP, ?_⟩)
    (refine XD_end (h := ?_); (repeat refine Z ?_))
    refine XO_either (hT := fun h2 => ?_) (hF := fun h2 => ?_) <;> simp only [decide_eq_true_eq, decide_eq_false_iff_not] at h2
    · rw [decide_eq_true h2, Bool.true_and]
      (repeat refine Z ?_)
      refine XE_fold (by exact FAs) (Rs.fold (S := S)) ?_
      refine XE_fold (by exact FAs) (Rg.fold (S := S)) ?_
      refine XE_ret (.inl rfl) (tells_tmps rfl rfl) ⟨_, ⟨rfl, rfl⟩, by exact EN⟩
    · rw [decide_eq_false h2, Bool.false_and]
      (repeat refine Z ?_)
      refine XE_fold (by exact FAs) (Rs.fold (S := S)) ?_
      refine XE_fold (by exact FAs) (Rg.fold (S := S)) ?_
      refine XE_ret (.inl rfl) (tells_tmps rfl rfl) ⟨_, ⟨rfl, rfl⟩, by exact EN⟩
end Go.Proofs.YtamecmklcnohjaaGreat.Sep
namespace Go.Proofs.YtamecmklcnohjaaGreat.Sep
open Go.RowKit
set_option linter.unusedSimpArgs false
set_option linter.unusedVariables false
set_option maxHeartbeats 8000000
attribute [local irreducible] X XE XO XD XDi XDa PV RV DV pt base Spec Sl Mp Keeps Pg Kc Pgs Spc Ck XL XLi Pl Rs Rg
theorem rrew_ok (r s sb : Nat) {P : Int} {B : Nat} {o : Int} {C : Co} {m : Mm} {S : Sh} {oth : List (Int × Hd)} {mc ml at_ ob pd : Int} (hR : RInv P B o C m.f S oth) (hf : fitsS S mc ml at_ = true) (h0 : 0 ≤ at_) (h1 : at_ ≤ 18446744073709551615) :
    Spec Tryz.prog 21 [.pointer (some ⟨r, 0, none⟩), .agg #[.int .i64 mc, .int .i64 ml, .int .u64 at_, .int .u64 ob, .int .u64 pd]] [Rg r s o S, Ck s sb C, Spc sb P m]
      (fun v L => v = .int .i64 0 ∧ L = [Rg r s o (setTop (cutS S mc ml) at_ ob pd), Ck s sb (putsC C S mc ml), Spc sb P (rewM P m S mc ml at_)]) := by
  refine Spec.intro (IsEnt.out) Tryz.func21 rfl Tryz.ntmps21 (by simp) (fun w0 F => ?_)
  simp only [envOf, List.zipIdx, List.map, List.cons_append, List.nil_append, Nat.zero_add, Nat.reduceAdd]
  have hlen := hR.len
  have hPb := hR.P1
  have hs := rcheck_spec r s o S mc ml at_ ob pd hlen.1 hlen.2
  rw [hf] at hs
  obtain ⟨f1, f2, f3, f4, f5, f6⟩ := fits_bds hf
  (repeat refine Z ?_)
  refine XO_dv dv_box (hk := ?_)
  rintro _ _ ⟨b3, rfl, rfl⟩
  (repeat refine Z ?_)
  refine XO_call hs (hk := ?_)
  rintro _ _ ⟨rfl, rfl⟩
  (repeat refine Z ?_)
  refine X_cond rfl (fun h => by cases h) (fun _ => ?_)
  refine X_open (A := Rg r s o S) (by exact FDs) Rg.open ?_
  rintro ⟨p0, p1⟩ -
  dsimp only [List.cons_append, List.nil_append]
  refine X_open (A := Rs r s p0 p1 S) (by exact FDs) Rs.open ?_
  rintro ⟨a, c⟩ -
  dsimp only [List.cons_append, List.nil_append]
  have hK1 := hR.k1
  have s1 := pcut_spec p1 s sb hK1 hR.hP hlen.2 (n := ml) f3
  obtain ⟨k1, k2⟩ := pcut_inv hK1 hR.hP hlen.2 ml.toNat
  have hK2 : KInv (cutC C (S.larges.drop ml.toNat)) (cutM P m (S.larges.drop ml.toNat)).f (plH 0 o 0 (S.parts.map runP) ++ (plH 1 o 0 (S.larges.take ml.toNat) ++ oth)) := by
    refine k1.perm ?_
    refine (List.Perm.of_eq (List.append_assoc _ _ _).symm).trans (((List.perm_append_comm).append_right oth).trans (List.Perm.of_eq (List.append_assoc _ _ _)))
  have s2 := pcut_spec p0 s sb hK2 k2 (by simp; exact hlen.1) (n := mc) f1
  have hC : putsC C S mc ml = cutC (cutC C (S.larges.drop ml.toNat)) ((S.parts.map runP).drop mc.toNat) := rfl
  unfold rewM
  rw [hC]
  (repeat refine Z ?_)
  (repeat refine ZD ?_)
  refine XD_one (h := ?_)
  refine XDa_dvA (dv_call s1) (hk := ?_)
  (rintro _ _ ⟨_, ⟨rfl, rfl⟩, rfl⟩; refine ⟨by exact KP, ?_⟩)
  (refine XD_end (h := ?_); (repeat refine Z ?_))
  (repeat refine ZD ?_)
  refine XD_one (h := ?_)
  refine XDa_dvA (dv_call s2) (hk := ?_)
  (rintro _ _ ⟨_, ⟨rfl, rfl⟩, rfl⟩; refine ⟨by exact KP, ?_⟩)
  (refine XD_end (h := ?_); (repeat refine Z ?_))
  clear s1 s2
  generalize cutM P (cutM P m (S.larges.drop ml.toNat)) ((S.parts.map runP).drop mc.toNat) = m1
  generalize cutC (cutC C (S.larges.drop ml.toNat)) ((S.parts.map runP).drop mc.toNat) = C1
  refine X_fact (A := Sl eRP a c S.parts) (by exact FDs) Sl.cap (fun hcap => ?_)
  (repeat refine Z ?_)
  (repeat refine ZD ?_)
  refine XD_one (h := ?_)
  refine XDa_dvk0 dv_store (K := _) (hk := ?_)
  (rintro _ _ rfl; refine ⟨by exact KP, ?_⟩)
  (refine XD_end (h := ?_); (repeat refine Z ?_))
  have hln : mc.toNat = (cutS S mc ml).parts.length := by simp [cutS]; omega
  have hruns := cut_runs S mc ml
  have hlar : (cutS S mc ml).larges = S.larges.take ml.toNat := rfl
  refine XO_conv (fun _ => SL_take (E' := eRP) (a := a) (c := c) (xs := S.parts) mc.toNat (by exact FDs)) ?_
  refine XO_fold (by exact FAs) (Rs.foldN (r := r) (s := s) (p0 := p0) (p1 := p1) (S := cutS S mc ml) (a := a) (c := c) (n := mc.toNat) hln) ?_
  have hsl : (cutS S mc ml).parts.length ≤ 4611686018427387904 := by omega
  have htop : at_ < topAt (cutS S mc ml) → 0 ≤ topAt (cutS S mc ml) ∧ topAt (cutS S mc ml) ≤ P * 4096 := fun hlt => by
    have hmc : mc ≠ 0 := by
      intro h
      have h2 := f5 h
      have : topAt (cutS S mc ml) = 0 := by unfold topAt cutS; rw [h]; rfl
      omega
    obtain ⟨e1, e2, e3, e4⟩ := f6 hmc
    have hm1 : lastP (cutS S mc ml).parts ∈ S.parts := List.mem_of_mem_take (last_mem e1)
    have hrun := hR.S.pi.parts _ (List.mem_map.2 ⟨_, hm1, rfl⟩)
    have hpo := hR.po _ hm1
    unfold RunOk runP at hrun
    unfold PtOk at hpo
    unfold topAt
    simp only at hrun
    omega
  clear hln f6
  generalize cutS S mc ml = S1 at hruns hlar hsl htop ⊢
  refine XO_open (A := Rs r s p0 p1 S1) (by exact FDs) Rs.open ?_
  rintro ⟨a1, c1⟩ -
  dsimp only [List.cons_append, List.nil_append]
  refine XO_call (rtop_spec r s p0 p1 S1 a1 c1 hsl) (hk := ?_)
  rintro _ _ ⟨cb, oo, A, G, rfl, hCur, hfold, rfl⟩
  (repeat refine Z ?_)
  refine XO_rv (hCur.load1 (by exact FDs) rfl) (hk := ?_)
  refine XO_fold (by exact FAs) (hfold (topAt S1) S1.obj S1.pad) ?_
  rw [setTop_self]
  clear hCur hfold
  refine XO_open (A := Rs r s p0 p1 S1) (by exact FDs) Rs.open ?_
  rintro ⟨a2, c2⟩ -
  dsimp only [List.cons_append, List.nil_append]
  (repeat refine Z ?_)
  refine X_cond rfl (fun hlt => ?_) (fun hlt => ?_) <;> simp only [decide_eq_true_eq, decide_eq_false_iff_not] at hlt
  · rw [if_pos hlt]
    have ht := htop hlt
    have hz := Zero_spec sb P m1 at_ (topAt S1 - at_) (by omega) hPb.2 h0 h1 (by omega) (by omega)
    unfold zeroV at hz
    rw [if_pos (by omega)] at hz
    (repeat refine Z ?_)
    (repeat refine ZD ?_)
    refine XD_one (h := ?_)
    refine XDa_dvA (dv_call (kspace_spec s sb C1)) (hk := ?_)
    (rintro _ _ ⟨_, ⟨rfl, rfl⟩, rfl⟩; refine ⟨by exact KP, ?_⟩)
    (repeat refine ZD ?_)
    refine XD_one (h := ?_)
    refine XDa_dvA (dv_call hz) (hk := ?_)
    (rintro _ _ ⟨_, ⟨rfl, rfl⟩, rfl⟩; refine ⟨by exact KP, ?_⟩)
    (refine XD_end (h := ?_); (repeat refine Z ?_))
    (repeat refine Z ?_)
    (repeat refine ZD ?_)
    refine XD_one (h := ?_)
    refine XDa_dvA (dv_call (rtop_spec r s p0 p1 S1 a2 c2 hsl)) (hk := ?_)
    rintro _ _ ⟨_, ⟨cb2, o2, A2, G2, rfl, hCur2, hfold2, rfl⟩, rfl⟩
    refine ⟨by exact KP, ?_⟩
    (repeat refine ZD ?_)
    refine XD_one (h := ?_)
    refine XDa_dvk0 (hCur2.store1 (a' := at_) (by exact FDs) rfl rfl) (K := _) (hk := ?_)
    (rintro _ _ rfl; refine ⟨by exact KP, ?_⟩)
    (refine XD_end (h := ?_); (repeat refine Z ?_))
    refine XO_dv0 (dv_storeP (vs := [.int .u64 ob, .int .u64 pd])) (hk := ?_)
    rintro _ _ rfl
    refine XO_fold (by exact FAs) (hfold2 at_ ob pd) ?_
    rw [← hruns, ← hlar]
    refine XO_fold (by exact FAs) (Rg.foldT (r := r) (s := s) (o := o) (S := S1) (p0 := p0) (p1 := p1) (a := at_) (b := ob) (c := pd)) ?_
    (repeat refine Z ?_)
    refine XE_ret (.inl rfl) (tells_tmps rfl rfl) ⟨_, ⟨rfl, rfl⟩, by exact EN⟩
  · rw [if_neg hlt]
    (repeat refine Z ?_)
    (repeat refine ZD ?_)
    refine XD_one (h := ?_)
    refine XDa_dvA (dv_call (rtop_spec r s p0 p1 S1 a2 c2 hsl)) (hk := ?_)
    rintro _ _ ⟨_, ⟨cb2, o2, A2, G2, rfl, hCur2, hfold2, rfl⟩, rfl⟩
    refine ⟨by exact KP, ?_⟩
    (repeat refine ZD ?_)
    refine XD_one (h := ?_)
    refine XDa_dvk0 (hCur2.store1 (a' := at_) (by exact FDs) rfl rfl) (K := _) (hk := ?_)
    (rintro _ _ rfl; refine ⟨by exact KP, ?_⟩)
    (refine XD_end (h := ?_); (repeat refine Z ?_))
    refine XO_dv0 (dv_storeP (vs := [.int .u64 ob, .int .u64 pd])) (hk := ?_)
    rintro _ _ rfl
    refine XO_fold (by exact FAs) (hfold2 at_ ob pd) ?_
    rw [← hruns, ← hlar]
    refine XO_fold (by exact FAs) (Rg.foldT (r := r) (s := s) (o := o) (S := S1) (p0 := p0) (p1 := p1) (a := at_) (b := ob) (c := pd)) ?_
    (repeat refine Z ?_)
    refine XE_ret (.inl rfl) (tells_tmps rfl rfl) ⟨_, ⟨rfl, rfl⟩, by exact EN⟩
theorem rreset_spec (r s sb : Nat) {P : Int} {B : Nat} {o : Int} {C : Co} {m : Mm} {S : Sh} {oth : List (Int × Hd)} (hR : RInv P B o C m.f S oth) :
    Spec Tryz.prog 98 [.pointer (some ⟨r, 0, none⟩)] [Rg r s o S, Ck s sb C, Spc sb P m]
      (fun v L => v = .int .i64 0 ∧ L = [Rg r s o emptySh, Ck s sb (putsC C S 0 0), Spc sb P (rewM P m S 0 0 0)]) := by
  refine Spec.intro (IsEnt.out) Tryz.func98 rfl Tryz.ntmps98 (by simp) (fun w0 F => ?_)
  simp only [envOf, List.zipIdx, List.map, List.cons_append, List.nil_append, Nat.zero_add, Nat.reduceAdd]
  have hf : fitsS S 0 0 0 = true := by
    unfold fitsS
    rw [if_neg (by omega), if_pos rfl]
    rfl
  have hs := rrew_ok r s sb (ob := 0) (pd := 0) hR hf (Int.le_refl _) (by decide)
  (repeat refine Z ?_)
  refine XO_call hs (hk := ?_)
  rintro _ _ ⟨rfl, rfl⟩
  (repeat refine Z ?_)
  refine XE_ret (.inl rfl) (tells_tmps rfl rfl) ⟨_, ⟨rfl, rfl⟩, by exact EN⟩
end Go.Proofs.YtamecmklcnohjaaGreat.Sep
namespace Go.Proofs.YtamecmklcnohjaaGreat.Sep
open Go.RowKit
set_option linter.unusedSimpArgs false
set_option linter.unusedVariables false
theorem pv_indexAg {P : Program} {T el len s by' : Nat} {ty : TypeId} {e : Env} {x i : Operand} {kk : IntKind} {iv : Int} {z v : Value} {vs : List Value} {dd : TypeDesc} [hu : TU P T (.array len el)] [hft : TU P el dd] [hi : TI P el z s by'] (hg : aggD dd = false := by rfl)
    (hx : ev e x = some (.agg vs.toArray) := by rfl) (hiv : ev e i = some (.int kk iv) := by rfl) (h0 : 0 ≤ iv := by omega) (h1 : iv < (len : Int) := by omega) (hv : vs[iv.toNat * s]? = some v := by rfl) : PV P (.index T x i) ty e v := fun tm w pos aft h => by
  have h2 : (underlying T).run P w = .ok (.array len el) w := run_und hu.out
  have h6 : vs.toArray[iv.toNat * s]? = some v := by simpa using hv
  simp [execOp, Instr.index, ev_sound h hx, ev_sound h hiv, asIntOf, h2, h0, h1, run_size hi, part, run_isAgg hft.out, hg, hv]
abbrev meterV (S : Sh) : Value := .agg #[.int .i64 (shPages S), .int .i64 0, .int .i64 0, .int .i64 0, .int .u64 S.obj, .int .u64 S.pad, .int .u64 (shHdr S), .int .u64 (IntKind.u64.wrap (shPages S * 4096 - shHdr S - S.obj - S.pad))]
theorem RInv.bd {P : Int} {B : Nat} {o : Int} {C : Co} {m : Int → Int} {s : Sh} {oth : List (Int × Hd)} (h : RInv P B o C m s oth) : Bd (s.parts.map runP) ∧ Bd s.larges := by
  have hP := h.P1
  refine ⟨fun r hr => ?_, fun r hr => ?_⟩
  · have := h.S.pi.parts r hr; unfold RunOk at this; omega
  · have := h.S.pi.larges r hr; unfold RunOk at this; omega
theorem tot_bd0 : ∀ {l : List (Int × Int)}, Bd l → l.length ≤ 1048576 → 0 ≤ totI l ∧ totI l ≤ 1099511627776 := by
  have key : ∀ l : List (Int × Int), Bd l → 0 ≤ totI l ∧ totI l ≤ 1048576 * (l.length : Int) := by
    intro l
    induction l with
    | nil => intro _; simp [totI]
    | cons r l ih =>
      intro h
      have h1 := h r (by simp)
      have h2 := ih fun q hq => h q (by simp [hq])
      rw [tot_cons]; simp; omega
  intro l h hl
  have := key l h
  omega
def mH (S : Sh) : Nat → Int
  | 0 => 0
  | 1 => totI (S.parts.map runP)
  | _ => totI (S.parts.map runP) + totI S.larges
def mN (S : Sh) : Nat → Int
  | 0 => 0
  | 1 => 32 * (S.parts.length : Int)
  | _ => 32 * (S.parts.length : Int) + 32 * (S.larges.length : Int)
inductive NewSt
  | a
  | b (p : Nat)
  | c (p q : Nat)
def NewSt.k : NewSt → Int
  | .a => 0
  | .b _ => 1
  | .c _ _ => 2
def NewSt.n : NewSt → Nat
  | .a => 2
  | .b _ => 1
  | .c _ _ => 0
def NewSt.L (r s : Nat) (o : Int) : NewSt → List HP
  | .a => [pt r (.cells [.int .u64 0, .int .u64 0, .pointer (some ⟨s, 0, none⟩), .pointer none, .pointer none, .slice none 0 0].toArray 115 (0, 0))]
  | .b p => [pt r (.cells [.int .u64 0, .int .u64 0, .pointer (some ⟨s, 0, none⟩), .pointer (some ⟨p, 0, none⟩), .pointer none, .slice none 0 0].toArray 115 (0, 0)), Pl p s 0 o []]
  | .c p q => [pt r (.cells [.int .u64 0, .int .u64 0, .pointer (some ⟨s, 0, none⟩), .pointer (some ⟨p, 0, none⟩), .pointer (some ⟨q, 0, none⟩), .slice none 0 0].toArray 115 (0, 0)), Pl p s 0 o [], Pl q s 1 o []]
set_option maxHeartbeats 8000000
attribute [local irreducible] X XE XO XD XDi XDa PV RV DV pt base Spec Sl Mp Keeps Pg Kc Pgs Spc Ck XL XLi Pl Rs Rg
theorem rnew_spec (s : Nat) (o : Int) : Spec Tryz.prog 16 [.pointer (some ⟨s, 0, none⟩), .int .u64 o] [] (fun v L => ∃ r, v = .pointer (some ⟨r, 0, none⟩) ∧ L = [Rg r s o emptySh]) := by
  refine Spec.intro (IsEnt.out) Tryz.func16 rfl Tryz.ntmps16 (by simp) (fun w0 F => ?_)
  simp only [envOf, List.zipIdx, List.map, List.cons_append, List.nil_append, Nat.zero_add, Nat.reduceAdd]
  (repeat refine Z ?_)
  refine XO_pv (pv_buildG [.int .u64 0, .int .u64 0, .pointer (some ⟨s, 0, none⟩), .pointer none, .pointer none, .slice none 0 0]) (hk := ?_)
  (repeat refine Z ?_)
  refine XO_dv dv_box (hk := ?_)
  rintro _ _ ⟨r, rfl, rfl⟩
  (repeat refine Z ?_)
  refine X_loop (ι := NewSt) (fun _ => True) (fun q => [(0, .pointer (some ⟨s, 0, none⟩)), (1, .int .u64 o), (5, .pointer (some ⟨r, 0, none⟩)), (10, .int .i64 q.k)]) (fun q => q.L r s o ++ F) (fun q => q.n) .a trivial ?_ (by show ∀ H, _ → SL (pt r _ :: F) H; exact EN) ?_
  · exact SBs
  rintro (_ | p | ⟨p, q⟩) -
  · simp only [NewSt.L, NewSt.k, NewSt.n, List.cons_append, List.nil_append]
    (repeat refine Z ?_)
    refine X_cond rfl (fun _ => ?_) (fun h => by cases h)
    (repeat refine Z ?_)
    (repeat refine ZD ?_)
    refine XD_one (h := ?_)
    refine XDa_dvA (dv_call (plnew_spec s 0 o)) (hk := ?_)
    rintro _ _ ⟨_, ⟨p, rfl, rfl⟩, rfl⟩
    refine ⟨by exact KP, ?_⟩
    (repeat refine ZD ?_)
    refine XD_one (h := ?_)
    refine XDa_dvk0 dv_store (K := _) (hk := ?_)
    (rintro _ _ rfl; refine ⟨by exact KP, ?_⟩)
    (refine XD_end (h := ?_); (repeat refine Z ?_))
    exact X_round (.b p) trivial (by show 1 < 2; decide) (by exact SBs) (by show ∀ H, _ → SL (pt r _ :: Pl p s 0 o [] :: F) H; exact EN)
  · simp only [NewSt.L, NewSt.k, NewSt.n, List.cons_append, List.nil_append]
    (repeat refine Z ?_)
    refine X_cond rfl (fun _ => ?_) (fun h => by cases h)
    (repeat refine Z ?_)
    (repeat refine ZD ?_)
    refine XD_one (h := ?_)
    refine XDa_dvA (dv_call (plnew_spec s 1 o)) (hk := ?_)
    rintro _ _ ⟨_, ⟨q, rfl, rfl⟩, rfl⟩
    refine ⟨by exact KP, ?_⟩
    (repeat refine ZD ?_)
    refine XD_one (h := ?_)
    refine XDa_dvk0 dv_store (K := _) (hk := ?_)
    (rintro _ _ rfl; refine ⟨by exact KP, ?_⟩)
    (refine XD_end (h := ?_); (repeat refine Z ?_))
    exact X_round (.c p q) trivial (by show 0 < 1; decide) (by exact SBs) (by show ∀ H, _ → SL (pt r _ :: Pl p s 0 o [] :: Pl q s 1 o [] :: F) H; exact EN)
  · simp only [NewSt.L, NewSt.k, NewSt.n, List.cons_append, List.nil_append]
    (repeat refine Z ?_)
    refine X_cond rfl (fun h => by cases h) (fun _ => ?_)
    (repeat refine Z ?_)
    refine XE_conv (fun _ h => SL_nilSl eRP h) ?_
    refine XE_fold (by exact FAs) (Rs.fold (r := r) (s := s) (p0 := p) (p1 := q) (S := emptySh) (a := none) (c := 0)) ?_
    refine XE_fold (by exact FAs) (Rg.fold (r := r) (s := s) (o := o) (S := emptySh) (p0 := p) (p1 := q)) ?_
    refine XE_ret (.inl rfl) (tells_tmps rfl rfl) ⟨_, ⟨r, rfl, rfl⟩, by exact EN⟩
theorem rmeter_spec (r s : Nat) (o : Int) (S : Sh) (hl : S.parts.length ≤ 1048576) (hl2 : S.larges.length ≤ 1048576) (hB0 : Bd (S.parts.map runP)) (hB1 : Bd S.larges) : Spec Tryz.prog 27 [.pointer (some ⟨r, 0, none⟩)] [Rg r s o S] (fun v L => v = meterV S ∧ L = [Rg r s o S]) := by
  refine Spec.intro (IsEnt.out) Tryz.func27 rfl Tryz.ntmps27 (by simp) (fun w0 F => ?_)
  simp only [envOf, List.zipIdx, List.map, List.cons_append, List.nil_append, Nat.zero_add, Nat.reduceAdd]
  have hml : (S.parts.map runP).length = S.parts.length := List.length_map ..
  have ht0 := tot_bd0 hB0 (by omega)
  have ht1 := tot_bd0 hB1 hl2
  (repeat refine Z ?_)
  refine XO_dv dv_alloc (hk := ?_)
  rintro _ _ ⟨gb, rfl, rfl⟩
  (repeat refine Z ?_)
  refine X_cond rfl (fun h => by cases h) (fun _ => ?_)
  refine X_open (A := Rg r s o S) (by exact FDs) Rg.open ?_
  rintro ⟨p0, p1⟩ -
  dsimp only [List.cons_append, List.nil_append]
  refine X_open (A := Rs r s p0 p1 S) (by exact FDs) Rs.open ?_
  rintro ⟨a, c⟩ -
  dsimp only [List.cons_append, List.nil_append]
  (repeat refine Z ?_)
  (repeat refine ZD ?_)
  refine XDi_pvA (pv_buildG [.int .i64 0, .int .i64 0, .int .i64 0, .int .i64 0, .int .u64 S.obj, .int .u64 S.pad, .int .u64 0, .int .u64 0]) (h := ?_)
  (repeat refine ZD ?_)
  refine XD_one (h := ?_)
  refine XDa_dvA (dv_alloc (row := [.int .i64 0, .int .i64 0, .int .i64 0, .int .i64 0, .int .u64 0, .int .u64 0, .int .u64 0, .int .u64 0])) (hk := ?_)
  rintro _ _ ⟨mb, rfl, rfl⟩
  refine ⟨by exact KP, ?_⟩
  (repeat refine ZD ?_)
  refine XD_one (h := ?_)
  refine XDa_dvk0 dv_storeW (K := _) (hk := ?_)
  (rintro _ _ rfl; refine ⟨by exact KP, ?_⟩)
  (refine XD_end (h := ?_); (repeat refine Z ?_))
  refine X_loop (ι := Nat) (fun j => j ≤ 2) (fun j => [(2, .pointer (some ⟨gb, 0, none⟩)), (3, .pointer (some ⟨mb, 0, none⟩)), (23, .agg #[.pointer (some ⟨p0, 0, none⟩), .pointer (some ⟨p1, 0, none⟩)]), (24, .int .i64 (j : Int))])
    (fun j => pt mb (.cells [.int .i64 (mH S j), .int .i64 0, .int .i64 0, .int .i64 0, .int .u64 S.obj, .int .u64 S.pad, .int .u64 (mN S j), .int .u64 0].toArray 51 (0, 0)) :: pt gb (.cells [.int .i64 0, .int .i64 0, .int .i64 0, .int .i64 0, .int .u64 0, .int .u64 0, .int .u64 0, .int .u64 0].toArray 51 (0, 0)) :: pt r (.cells (rgRow s p0 p1 S.obj S.pad a S.parts.length c).toArray 115 (0, 0)) :: Sl eRP a c S.parts :: Pl p0 s 0 o (S.parts.map runP) :: Pl p1 s 1 o S.larges :: F) (fun j => 2 - j) 0 (by decide) ?_ (by simp only [mH, mN]; exact EN) ?_
  · exact SBs
  intro j hj
  rcases j with _ | _ | _ | j
  · simp only [mH, mN]
    (repeat refine Z ?_)
    refine X_cond rfl (fun _ => ?_) (fun h => by cases h)
    (repeat refine Z ?_)
    refine XO_pv (pv_indexAg (vs := [.pointer (some ⟨p0, 0, none⟩), .pointer (some ⟨p1, 0, none⟩)]) (v := .pointer (some ⟨p0, 0, none⟩))) (hk := ?_)
    (repeat refine Z ?_)
    (repeat refine ZD ?_)
    refine XD_one (h := ?_)
    refine XDa_dvA (dv_call (plpages_spec p0 s 0 o (S.parts.map runP) (by omega) hB0)) (hk := ?_)
    (rintro _ _ ⟨_, ⟨rfl, rfl⟩, rfl⟩; refine ⟨by exact KP, ?_⟩)
    (repeat refine ZD ?_)
    refine XD_one (h := ?_)
    refine XDa_dvk0 dv_store (K := _) (hk := ?_)
    (rintro _ _ rfl; refine ⟨by exact KP, ?_⟩)
    (refine XD_end (h := ?_); (repeat refine Z ?_))
    (repeat refine ZD ?_)
    refine XD_one (h := ?_)
    refine XDa_dvA (dv_call (plen_spec p0 s 0 o (S.parts.map runP))) (hk := ?_)
    (rintro _ _ ⟨_, ⟨rfl, rfl⟩, rfl⟩; refine ⟨by exact KP, ?_⟩)
    rw [hml]
    (repeat refine ZD ?_)
    refine XD_one (h := ?_)
    refine XDa_dvk0 dv_store (K := _) (hk := ?_)
    (rintro _ _ rfl; refine ⟨by exact KP, ?_⟩)
    (refine XD_end (h := ?_); (repeat refine Z ?_))
    exact X_round 1 (by decide) (by decide) (by exact SBs) (by simp only [mH, mN, Int.zero_add]; exact EN)
  · simp only [mH, mN]
    (repeat refine Z ?_)
    refine X_cond rfl (fun _ => ?_) (fun h => by cases h)
    (repeat refine Z ?_)
    refine XO_pv (pv_indexAg (vs := [.pointer (some ⟨p0, 0, none⟩), .pointer (some ⟨p1, 0, none⟩)]) (v := .pointer (some ⟨p1, 0, none⟩))) (hk := ?_)
    (repeat refine Z ?_)
    (repeat refine ZD ?_)
    refine XD_one (h := ?_)
    refine XDa_dvA (dv_call (plpages_spec p1 s 1 o S.larges hl2 hB1)) (hk := ?_)
    (rintro _ _ ⟨_, ⟨rfl, rfl⟩, rfl⟩; refine ⟨by exact KP, ?_⟩)
    (repeat refine ZD ?_)
    refine XD_one (h := ?_)
    refine XDa_dvk0 dv_store (K := _) (hk := ?_)
    (rintro _ _ rfl; refine ⟨by exact KP, ?_⟩)
    (refine XD_end (h := ?_); (repeat refine Z ?_))
    (repeat refine ZD ?_)
    refine XD_one (h := ?_)
    refine XDa_dvA (dv_call (plen_spec p1 s 1 o S.larges)) (hk := ?_)
    (rintro _ _ ⟨_, ⟨rfl, rfl⟩, rfl⟩; refine ⟨by exact KP, ?_⟩)
    (repeat refine ZD ?_)
    refine XD_one (h := ?_)
    refine XDa_dvk0 dv_store (K := _) (hk := ?_)
    (rintro _ _ rfl; refine ⟨by exact KP, ?_⟩)
    (refine XD_end (h := ?_); (repeat refine Z ?_))
    exact X_round 2 (by decide) (by decide) (by exact SBs) (by simp only [mH, mN]; exact EN)
  · have e1 : totI (S.parts.map runP) + totI S.larges = shPages S := rfl
    have e2 : 32 * (S.parts.length : Int) + 32 * (S.larges.length : Int) = shHdr S := by unfold shHdr; omega
    simp only [mH, mN]
    rw [e1, e2]
    have e3 : 0 ≤ shPages S ∧ shPages S ≤ 2199023255552 := by unfold shPages; omega
    have e4 : IntKind.u64.wrap (shPages S * 4096 - shHdr S - S.obj - S.pad) = IntKind.u64.wrap (IntKind.u64.wrap (IntKind.u64.wrap (shPages S * 4096 - shHdr S) - S.obj) - S.pad) := by simp only [wrap_u64_eq]; omega
    (repeat refine Z ?_)
    refine X_cond rfl (fun h => by cases h) (fun _ => ?_)
    (repeat refine Z ?_)
    refine XO_dv0 dv_store (hk := ?_)
    rintro _ _ rfl
    rw [← e4]
    (repeat refine Z ?_)
    refine XO_dv0 dv_storeW (hk := ?_)
    rintro _ _ rfl
    (repeat refine Z ?_)
    refine XE_fold (by exact FAs) (Rs.fold (r := r) (s := s) (p0 := p0) (p1 := p1) (S := S) (a := a) (c := c)) ?_
    refine XE_fold (by exact FAs) (Rg.fold (r := r) (s := s) (o := o) (S := S) (p0 := p0) (p1 := p1)) ?_
    refine XE_ret (.inl rfl) (tells_cell rfl) ⟨_, ⟨rfl, rfl⟩, by exact EN⟩
  · omega
end Go.Proofs.YtamecmklcnohjaaGreat.Sep
namespace Go.Proofs.YtamecmklcnohjaaGreat.Sep
open Go.RowKit
set_option linter.unusedSimpArgs false
set_option linter.unusedVariables false
section
variable {α : Type}
theorem find_ix {f : α → HP} : ∀ {M : List α} {i : Nat} {q : α}, M[i]? = some q → Find (M.map f) (f q) ((M.eraseIdx i).map f)
  | [], i, q, h => by simp at h
  | x :: M, 0, q, h => by simp at h; subst h; exact Find.here
  | x :: M, i + 1, q, h => by simp at h; exact Find.there (find_ix h)
theorem Star.outI {f : α → HP} {M : List α} {i : Nat} {q : α} (h : M[i]? = some q) : ∀ H, Star f M H → ∃ x : Unit, True ∧ SL [f q, Star f (M.eraseIdx i)] H := fun H hs => ⟨(), trivial, SL_pack H ((find_ix h).fwd hs)⟩
theorem eraseIdx_set_same : ∀ (M : List α) (i : Nat) (q : α), (M.set i q).eraseIdx i = M.eraseIdx i
  | [], _, _ => by simp
  | x :: M, 0, q => by simp
  | x :: M, i + 1, q => by simp [eraseIdx_set_same M i q]
theorem Star.backI {f : α → HP} {M : List α} {i : Nat} {q : α} (h : i < M.length) : ∀ H, SL [f q, Star f (M.eraseIdx i)] H → Star f (M.set i q) H := fun H hs => by
  have h1 : (M.set i q)[i]? = some q := by simp [h]
  have := (find_ix (f := f) h1).bwd (SL_unpack H (by rw [eraseIdx_set_same]; exact hs))
  exact this
theorem Star.sameI {f : α → HP} {M : List α} {i : Nat} {q : α} (h : M[i]? = some q) : ∀ H, SL [f q, Star f (M.eraseIdx i)] H → Star f M H := fun H hs => (find_ix (f := f) h).bwd (SL_unpack H hs)
theorem Star.snocI {f : α → HP} {M : List α} {q : α} : ∀ H, SL [f q, Star f M] H → Star f (M ++ [q]) H := fun H hs => by
  have h1 : (M ++ [q])[M.length]? = some q := by simp
  have := (find_ix (f := f) h1).bwd (SL_unpack H (by rw [show (M ++ [q]).eraseIdx M.length = M from by rw [List.eraseIdx_append_of_length_le (Nat.le_refl _)]; simp]; exact hs))
  exact this
theorem perm_ix : ∀ {M : List α} {i : Nat} {q : α}, M[i]? = some q → M.Perm (q :: M.eraseIdx i)
  | [], i, q, h => by simp at h
  | x :: M, 0, q, h => by simp at h; subst h; simp
  | x :: M, i + 1, q, h => by
    simp at h
    have := perm_ix h
    simp only [List.eraseIdx_cons_succ]
    exact (this.cons x).trans (List.Perm.swap _ _ _)
end
abbrev RgT := Nat × Int × Sh
def RgOf (s : Nat) (q : RgT) : HP := Rg q.1 s q.2.1 q.2.2
def gotM (M : List RgT) : List (Int × Hd) := M.flatMap fun q => gotR q.2.1 q.2.2
theorem gotM_perm {M M' : List RgT} (h : M.Perm M') : (gotM M).Perm (gotM M') := h.flatMap_right _
structure RAll (P : Int) (B : Nat) (C : Co) (m : Int → Int) (M : List RgT) : Prop where
  K : KInv C m (gotM M)
  hP : C.P = P
  S : ∀ q ∈ M, SInv P B q.2.2
  po : ∀ q ∈ M, ∀ p ∈ q.2.2.parts, PtOk p
theorem RAll.one {P : Int} {B : Nat} {C : Co} {m : Int → Int} {M : List RgT} (h : RAll P B C m M) {i : Nat} {q : RgT} (hq : M[i]? = some q) : RInv P B q.2.1 C m q.2.2 (gotM (M.eraseIdx i)) :=
  ⟨h.K.perm (gotM_perm (perm_ix hq)), h.hP, h.S q (List.mem_of_getElem? hq), h.po q (List.mem_of_getElem? hq)⟩
theorem SInv.le {P : Int} {B B' : Nat} {s : Sh} (h : SInv P B s) (hB : B ≤ B') : SInv P B' s := ⟨h.ok, h.pi, Nat.le_trans h.lp hB, Nat.le_trans h.ll hB⟩
theorem RAll.le {P : Int} {B B' : Nat} {C : Co} {m : Int → Int} {M : List RgT} (h : RAll P B C m M) (hB : B ≤ B') : RAll P B' C m M := ⟨h.K, h.hP, fun q hq => (h.S q hq).le hB, h.po⟩
theorem RAll.set {P : Int} {B B' : Nat} {C C' : Co} {m m' : Int → Int} {M : List RgT} (h : RAll P B C m M) {i : Nat} (hi : i < M.length) {q' : RgT} (hB : B ≤ B') (hR : RInv P B' q'.2.1 C' m' q'.2.2 (gotM (M.eraseIdx i))) : RAll P B' C' m' (M.set i q') := by
  have hg : (M.set i q')[i]? = some q' := by simp [hi]
  refine ⟨?_, hR.hP, fun q hq => ?_, fun q hq => ?_⟩
  · refine hR.K.perm (List.Perm.symm ?_)
    have := gotM_perm (perm_ix hg)
    rw [eraseIdx_set_same] at this
    exact this
  · rcases List.mem_or_eq_of_mem_set hq with h1 | h1
    · exact (h.S q h1).le hB
    · subst h1; exact hR.S
  · rcases List.mem_or_eq_of_mem_set hq with h1 | h1
    · exact h.po q h1
    · subst h1; exact hR.po
theorem RAll.ok {P : Int} {B : Nat} {C : Co} {m : Int → Int} {M : List RgT} (h : RAll P B C m M) : CoOk C := h.K.ci.ok
theorem Rgs.snoc {r s : Nat} {o : Int} {S : Sh} {M : List RgT} : ∀ H, SL [Rg r s o S, Star (RgOf s) M] H → Star (RgOf s) (M ++ [(r, o, S)]) H := fun H hs => Star.snocI (f := RgOf s) (q := (r, o, S)) H hs
theorem Rgs.out {s i : Nat} {q : RgT} {M : List RgT} (h : M[i]? = some q) : ∀ H, Star (RgOf s) M H → ∃ x : Unit, True ∧ SL [Rg q.1 s q.2.1 q.2.2, Star (RgOf s) (M.eraseIdx i)] H := fun H hs => Star.outI (f := RgOf s) h H hs
theorem Rgs.back {r s i : Nat} {o : Int} {S : Sh} {M : List RgT} (h : i < M.length) : ∀ H, SL [Rg r s o S, Star (RgOf s) (M.eraseIdx i)] H → Star (RgOf s) (M.set i (r, o, S)) H := fun H hs => Star.backI (f := RgOf s) (q := (r, o, S)) h H hs
theorem Rgs.same {s i : Nat} {q : RgT} {M : List RgT} (h : M[i]? = some q) : ∀ H, SL [Rg q.1 s q.2.1 q.2.2, Star (RgOf s) (M.eraseIdx i)] H → Star (RgOf s) M H := fun H hs => Star.sameI (f := RgOf s) h H hs
end Go.Proofs.YtamecmklcnohjaaGreat.Sep
namespace Go.Proofs.YtamecmklcnohjaaGreat.Sep
open Go.RowKit
set_option linter.unusedSimpArgs false
set_option linter.unusedVariables false
def kids (T : List (Int × Int)) (id : Int) : List Int := (T.filter fun q => q.2 == id).map (·.1)
def parT (T : List (Int × Int)) (id : Int) : Int := (lk T id).getD 0
structure TWf (T : List (Int × Int)) : Prop where
  nd : (T.map (·.1)).Nodup
  nz : ∀ q ∈ T, q.1 ≠ 0
  up : ∀ q ∈ T, q.2 = 0 ∨ q.2 ∈ T.map (·.1)
  ne : ∀ q ∈ T, q.2 ≠ q.1
  od : T.Pairwise fun a b => a.2 ≠ b.1
theorem kids_app (T : List (Int × Int)) (id p x : Int) : kids (T ++ [(id, p)]) x = if p = x then kids T x ++ [id] else kids T x := by
  unfold kids
  rw [List.filter_append, List.map_append]
  by_cases h : p = x
  · rw [if_pos h]; simp [h]
  · rw [if_neg h]; simp [h]
theorem kids_mem {T : List (Int × Int)} {id x : Int} : x ∈ kids T id ↔ (x, id) ∈ T := by
  unfold kids
  constructor
  · intro h
    obtain ⟨q, hq, rfl⟩ := List.mem_map.1 h
    have h1 := List.mem_filter.1 hq
    have h2 : q.2 = id := by simpa using h1.2
    rw [← h2]; exact h1.1
  · intro h
    exact List.mem_map.2 ⟨(x, id), List.mem_filter.2 ⟨h, by simp⟩, rfl⟩
theorem kids_len (T : List (Int × Int)) (id : Int) : (kids T id).length ≤ T.length := by
  unfold kids; rw [List.length_map]; exact List.length_filter_le _ _
theorem TWf.nil : TWf [] := ⟨by simp, (fun q h => by cases h), (fun q h => by cases h), (fun q h => by cases h), List.Pairwise.nil⟩
theorem TWf.add {T : List (Int × Int)} (h : TWf T) {id p : Int} (h0 : id ≠ 0) (hn : id ∉ T.map (·.1)) (hp : p = 0 ∨ p ∈ T.map (·.1)) : TWf (T ++ [(id, p)]) := by
  refine ⟨?_, fun q hq => ?_, fun q hq => ?_, fun q hq => ?_, ?_⟩
  case refine_4 =>
    rcases List.mem_append.1 hq with h1 | h1
    · exact h.ne q h1
    · simp at h1; subst h1
      intro e
      have e : p = id := e
      subst e
      rcases hp with h2 | h2
      · exact h0 h2
      · exact hn h2
  case refine_5 =>
    rw [List.pairwise_append]
    refine ⟨h.od, by simp, fun a ha b hb => ?_⟩
    simp at hb; subst hb
    intro e
    have e : a.2 = id := e
    rcases h.up a ha with h2 | h2
    · exact h0 (e.symm.trans h2)
    · rw [e] at h2; exact hn h2
  · rw [List.map_append, List.nodup_append]
    exact ⟨h.nd, by simp, fun a ha b hb e => by simp at hb; subst hb; subst e; exact hn ha⟩
  · rcases List.mem_append.1 hq with h1 | h1
    · exact h.nz q h1
    · simp at h1; subst h1; exact h0
  · rw [List.map_append]
    rcases List.mem_append.1 hq with h1 | h1
    · rcases h.up q h1 with h2 | h2
      · exact .inl h2
      · exact .inr (List.mem_append.2 (.inl h2))
    · simp at h1; subst h1
      rcases hp with h2 | h2
      · exact .inl h2
      · exact .inr (List.mem_append.2 (.inl h2))
theorem TWf.kids0 {T : List (Int × Int)} (h : TWf T) {id : Int} (h0 : id ≠ 0) (hn : id ∉ T.map (·.1)) : kids T id = [] := by
  cases hk : kids T id with
  | nil => rfl
  | cons x l =>
    have hx : x ∈ kids T id := by rw [hk]; simp
    rcases h.up _ (kids_mem.1 hx) with h1 | h1
    · exact absurd h1 h0
    · exact absurd h1 hn
theorem parT_app {T : List (Int × Int)} {id p x : Int} (hn : id ∉ T.map (·.1)) : parT (T ++ [(id, p)]) x = if x = id then p else parT T x := by
  have hl : ∀ (T : List (Int × Int)), id ∉ T.map (·.1) → lk (T ++ [(id, p)]) x = if x = id then some p else lk T x := by
    intro T
    induction T with
    | nil => intro _; simp [lk, eq_comm]
    | cons q T ih =>
      intro hn
      simp only [List.map_cons, List.mem_cons, not_or] at hn
      obtain ⟨k, v⟩ := q
      simp only [List.cons_append, lk]
      rw [ih hn.2]
      by_cases h1 : k = x
      · subst h1; have h2 : k ≠ id := fun e => hn.1 e.symm; simp [h2]
      · have h1' : ¬ x = k := fun e => h1 e.symm
        simp [h1']
  unfold parT
  rw [hl T hn]
  by_cases h1 : x = id
  · simp [h1]
  · rw [if_neg h1, if_neg h1]
abbrev npV (b : Option Nat) : Value := .pointer (b.map fun b => ⟨b, 0, none⟩)
def NodeOf (T : List (Int × Int)) (q : Int × Nat) : HP := fun H => ∃ x : Option Addr × Nat, SL [pt q.2 (.cells [.int .u64 (parT T q.1), .slice x.1 (kids T q.1).length x.2].toArray 233 (0, 0)), Sl (eI .u64) x.1 x.2 (kids T q.1)] H
theorem NodeOf.open {T : List (Int × Int)} {q : Int × Nat} : ∀ H, NodeOf T q H → ∃ x : Option Addr × Nat, True ∧ SL [pt q.2 (.cells [.int .u64 (parT T q.1), .slice x.1 (kids T q.1).length x.2].toArray 233 (0, 0)), Sl (eI .u64) x.1 x.2 (kids T q.1)] H := fun H ⟨x, h⟩ => ⟨x, trivial, h⟩
theorem NodeOf.fold {T : List (Int × Int)} {q : Int × Nat} {a : Option Addr} {n c : Nat} {p : Int} (hn : n = (kids T q.1).length) (hp : p = parT T q.1) : ∀ H, SL [pt q.2 (.cells [.int .u64 p, .slice a n c].toArray 233 (0, 0)), Sl (eI .u64) a c (kids T q.1)] H → NodeOf T q H := by
  subst hn hp; exact fun H h => ⟨(a, c), h⟩
theorem NodeOf.same {T T' : List (Int × Int)} {q : Int × Nat} (h1 : kids T' q.1 = kids T q.1) (h2 : parT T' q.1 = parT T q.1) : NodeOf T' q = NodeOf T q := by unfold NodeOf; rw [h1, h2]
theorem Star.congr {α : Type} {f g : α → HP} {M : List α} (h : ∀ x ∈ M, f x = g x) : Star f M = Star g M := by
  unfold Star; rw [List.map_congr_left h]
abbrev ndB (N : List (Int × Nat)) : List (Int × Option Nat) := N.map fun q => (q.1, some q.2)
def Tre (b : Nat) (T : List (Int × Int)) : HP := fun H => ∃ x : Nat × List (Int × Nat), x.2.map (·.1) = 0 :: T.map (·.1) ∧ SL [pt b (.cells [.map (some x.1)].toArray 236 (0, 0)), Mp vU npV x.1 (ndB x.2), Star (NodeOf T) x.2] H
theorem Tre.open {b : Nat} {T : List (Int × Int)} : ∀ H, Tre b T H → ∃ x : Nat × List (Int × Nat), x.2.map (·.1) = 0 :: T.map (·.1) ∧ SL [pt b (.cells [.map (some x.1)].toArray 236 (0, 0)), Mp vU npV x.1 (ndB x.2), Star (NodeOf T) x.2] H := fun H h => h
theorem Tre.fold {b mb : Nat} {T : List (Int × Int)} {N : List (Int × Nat)} (h : N.map (·.1) = 0 :: T.map (·.1)) : ∀ H, SL [pt b (.cells [.map (some mb)].toArray 236 (0, 0)), Mp vU npV mb (ndB N), Star (NodeOf T) N] H → Tre b T H := fun H hs => ⟨(mb, N), h, hs⟩
theorem nd_out {T : List (Int × Int)} {N : List (Int × Nat)} {i : Nat} {q : Int × Nat} (h : N[i]? = some q) : ∀ H, Star (NodeOf T) N H → ∃ x : Unit, True ∧ SL [NodeOf T q, Star (NodeOf T) (N.eraseIdx i)] H := fun H hs => Star.outI (f := NodeOf T) h H hs
theorem nd_same {T : List (Int × Int)} {N : List (Int × Nat)} {i : Nat} {q : Int × Nat} (h : N[i]? = some q) : ∀ H, SL [NodeOf T q, Star (NodeOf T) (N.eraseIdx i)] H → Star (NodeOf T) N H := fun H hs => Star.sameI (f := NodeOf T) h H hs
theorem nd_snoc {T : List (Int × Int)} {N : List (Int × Nat)} {q : Int × Nat} : ∀ H, SL [NodeOf T q, Star (NodeOf T) N] H → Star (NodeOf T) (N ++ [q]) H := fun H hs => Star.snocI (f := NodeOf T) H hs
theorem ndB_lk (N : List (Int × Nat)) (id : Int) : lk (ndB N) id = (lk N id).map some := by
  induction N with
  | nil => rfl
  | cons q N ih => obtain ⟨k, v⟩ := q; simp only [ndB, List.map_cons, lk] at ih ⊢; split <;> simp_all
theorem lk_ix : ∀ {N : List (Int × Nat)} {id : Int}, id ∈ N.map (·.1) → ∃ (i b : Nat), N[i]? = some (id, b) ∧ lk N id = some b
  | [], _, h => by simp at h
  | (k, v) :: N, id, h => by
    by_cases h1 : k = id
    · subst h1; exact ⟨0, v, rfl, by simp [lk]⟩
    · simp only [List.map_cons, List.mem_cons] at h
      rcases h with h2 | h2
      · exact absurd h2.symm h1
      · obtain ⟨i, b, hi, hb⟩ := lk_ix h2
        have h1' : ¬ id = k := fun e => h1 e.symm
        exact ⟨i + 1, b, by simpa using hi, by simp [lk, h1', hb]⟩
theorem nodup_ix {N : List (Int × Nat)} (hn : (N.map (·.1)).Nodup) {i : Nat} {q : Int × Nat} (h : N[i]? = some q) : ∀ r ∈ N.eraseIdx i, r.1 ≠ q.1 := fun r hr e => by
  have hp := (perm_ix h).map (·.1)
  have := hp.nodup_iff.1 hn
  simp only [List.map_cons, List.nodup_cons] at this
  exact this.1 (e ▸ List.mem_map.2 ⟨r, hr, rfl⟩)
theorem dv_insert {P : Program} {w0 : World} {e : Env} {L R : List HP} {ty : TypeId} {κ α : Type} [DecidableEq κ] {ke : κ → Value} {ve : α → Value} {T K el : Nat} {x ix y : Operand} {b : Nat} {l : List (κ × α)} (kk : κ) (v : α) [hu : TU P T (.map K el)] (hx : ev e x = some (.map (some b)) := by rfl)
    (hf : Find L (Mp ke ve b l) R := by repeat (first | exact Find.here | apply Find.there)) (hk : ev e ix = some (ke kk) := by rfl) (hy : ev e y = some (ve v) := by rfl) (ht : TK P K ke := by infer_instance) :
    DV P w0 (.insert T x ix y) ty e L (fun _ L' => L' = Mp ke ve b (ins l kk v) :: R) := by
  have h := dv_mapUpdate (P := P) (w0 := w0) (ty := ty) (T := T) (K := K) (el := el) (x := x) (ix := ix) (y := y) (L := L) (R := R) (ke := ke) (ve := ve) (l := l) (b := b) kk v hx hf hk hy ht
  exact h
set_option maxHeartbeats 8000000
attribute [local irreducible] X XE XO XD XDi XDa PV RV DV pt base Spec Sl Mp Keeps
attribute [local irreducible] Tre NodeOf Star
theorem tr_new : Spec Tryz.prog 88 [] [] (fun v L => ∃ b, v = .pointer (some ⟨b, 0, none⟩) ∧ L = [Tre b []]) := by
  refine Spec.intro (IsEnt.out) Tryz.func88 rfl Tryz.ntmps88 (by simp) (fun w0 F => ?_)
  simp only [envOf, List.zipIdx, List.map, List.cons_append, List.nil_append, Nat.zero_add, Nat.reduceAdd]
  (repeat refine Z ?_)
  refine XO_dv (dv_makeMap vU npV) (hk := ?_)
  rintro _ _ ⟨mb, rfl, rfl⟩
  (repeat refine Z ?_)
  refine XO_dv dv_box (hk := ?_)
  rintro _ _ ⟨nb, rfl, rfl⟩
  refine XO_dv0 (dv_insert (ke := vU) (ve := npV) (l := []) (kk := 0) (v := some nb)) (hk := ?_)
  rintro _ _ rfl
  (repeat refine Z ?_)
  refine XO_dv dv_box (hk := ?_)
  rintro _ _ ⟨b, rfl, rfl⟩
  (repeat refine Z ?_)
  refine XE_conv (fun _ h => SL_nilSl (eI .u64) h) ?_
  refine XE_fold (by exact FAs) (NodeOf.fold (T := []) (q := (0, nb)) (a := none) (n := 0) (c := 0) (p := 0) rfl rfl) ?_
  refine XE_conv (fun _ h => Star.nil (f := NodeOf []) h) ?_
  refine XE_fold (S := [NodeOf [] (0, nb), Star (NodeOf []) []]) (by exact FAs) nd_snoc ?_
  refine XE_fold (by exact FAs) (Tre.fold (b := b) (mb := mb) (T := []) (N := [(0, nb)]) rfl) ?_
  refine XE_ret (.inl rfl) (tells_tmps rfl rfl) ⟨_, ⟨b, rfl, rfl⟩, by exact EN⟩
theorem tr_node (b mb : Nat) (ml : List (Int × Option Nat)) (id : Int) : Spec Tryz.prog 140 [.pointer (some ⟨b, 0, none⟩), .int .u64 id] [pt b (.cells [.map (some mb)].toArray 236 (0, 0)), Mp vU npV mb ml] (fun v L => v = npV ((lk ml id).getD none) ∧ L = [pt b (.cells [.map (some mb)].toArray 236 (0, 0)), Mp vU npV mb ml]) := by
  refine Spec.intro (IsEnt.out) Tryz.func140 rfl Tryz.ntmps140 (by simp) (fun w0 F => ?_)
  simp only [envOf, List.zipIdx, List.map, List.cons_append, List.nil_append, Nat.zero_add, Nat.reduceAdd]
  (repeat refine Z ?_)
  refine X_cond rfl (fun h => by cases h) (fun _ => ?_)
  (repeat refine Z ?_)
  refine XO_rv (rv_lookup (ke := vU) (ve := npV) (kk := id) (d0 := none)) (hk := ?_)
  (repeat refine Z ?_)
  refine XE_ret (.inl rfl) (tells_tmps rfl rfl) ⟨_, ⟨rfl, rfl⟩, by exact EN⟩
attribute [local irreducible] kids
theorem insN {κ α : Type} [DecidableEq κ] : ∀ {l : List (κ × α)} {k : κ} {v : α}, lk l k = none → ins l k v = l ++ [(k, v)]
  | [], _, _, _ => rfl
  | (a, u) :: l, k, v, h => by
    simp only [lk] at h
    split at h
    · cases h
    · rename_i hne; simp [ins, hne, insN h]
theorem tr_add (b : Nat) (T : List (Int × Int)) (hw : TWf T) (id p : Int) (h0 : id ≠ 0) (hn : id ∉ T.map (·.1)) (hp : p = 0 ∨ p ∈ T.map (·.1)) (hl : T.length ≤ 1000000) : Spec Tryz.prog 93 [.pointer (some ⟨b, 0, none⟩), .int .u64 id, .int .u64 p] [Tre b T] (fun v L => v = .bool true ∧ L = [Tre b (T ++ [(id, p)])]) := by
  have hkl := kids_len T p
  have hpi : p ≠ id := fun e => by
    rcases hp with h1 | h1
    · exact h0 (e ▸ h1)
    · exact hn (e ▸ h1)
  refine Spec.intro (IsEnt.out) Tryz.func93 rfl Tryz.ntmps93 (by simp) (fun w0 F => ?_)
  simp only [envOf, List.zipIdx, List.map, List.cons_append, List.nil_append, Nat.zero_add, Nat.reduceAdd]
  refine X_open (A := Tre b T) (by exact FDs) Tre.open ?_
  rintro ⟨mb, N⟩ hN
  dsimp only [List.cons_append, List.nil_append] at hN ⊢
  obtain ⟨i, nb, hi, hlk⟩ := lk_ix (N := N) (id := p) (by rw [hN]; rcases hp with h1 | h1 <;> simp [h1])
  have hlk2 : lk (ndB N) p = some (some nb) := by rw [ndB_lk, hlk]; rfl
  have hln : lk (ndB N) id = none := by
    rw [lk_none]
    have : (ndB N).map (·.1) = N.map (·.1) := by simp [ndB]
    rw [this, hN]; simp only [List.mem_cons, not_or]; exact ⟨h0, hn⟩
  have hnd : (N.map (·.1)).Nodup := by
    rw [hN, List.nodup_cons]
    exact ⟨fun h => by obtain ⟨q, hq, e⟩ := List.mem_map.1 h; exact hw.nz q hq e, hw.nd⟩
  (repeat refine Z ?_)
  refine XO_call (tr_node b mb (ndB N) p) (hk := ?_)
  rintro _ _ ⟨rfl, rfl⟩
  rw [hlk2]
  (repeat refine Z ?_)
  refine XO_call (tr_node b mb (ndB N) id) (hk := ?_)
  rintro _ _ ⟨rfl, rfl⟩
  rw [hln]
  (repeat refine Z ?_)
  refine X_cond rfl (fun h => by cases h) (fun _ => ?_)
  (repeat refine Z ?_)
  refine XO_pv (pv_buildG [.int .u64 p, .slice none 0 0]) (hk := ?_)
  (repeat refine Z ?_)
  refine XO_dv dv_box (hk := ?_)
  rintro _ _ ⟨nb2, rfl, rfl⟩
  (repeat refine Z ?_)
  refine XO_dv0 (dv_mapUpdate (ke := vU) (ve := npV) (l := ndB N) (kk := id) (v := some nb2)) (hk := ?_)
  rintro _ _ rfl
  rw [show ins (ndB N) id (some nb2) = ndB (N ++ [(id, nb2)]) from by rw [insN hln]; simp [ndB]]
  (repeat refine Z ?_)
  refine XO_open (A := Star (NodeOf T) N) (by exact FDs) (nd_out hi) ?_
  rintro ⟨⟩ -
  refine XO_open (A := NodeOf T (p, nb)) (by exact FDs) NodeOf.open ?_
  rintro ⟨a, c⟩ -
  dsimp only [List.cons_append, List.nil_append]
  (repeat refine Z ?_)
  refine XO_lit (E' := eI .u64) [id] (hk := ?_)
  intro lb
  (repeat refine Z ?_)
  refine XO_dv (dv_append (E' := eI .u64) (xs := kids T p) (ys := [id]) (hv := Sl.view) (hb := by simp; omega)) (hk := ?_)
  rintro _ _ ⟨a', c', rfl, rfl⟩
  (repeat refine Z ?_)
  refine XO_dv0 dv_store (hk := ?_)
  rintro _ _ rfl
  (repeat refine Z ?_)
  have hk1 : kids (T ++ [(id, p)]) p = kids T p ++ [id] := by rw [kids_app, if_pos rfl]
  have hp1 : parT (T ++ [(id, p)]) p = parT T p := by rw [parT_app hn, if_neg hpi]
  have hk2 : kids (T ++ [(id, p)]) id = [] := by rw [kids_app, if_neg hpi, hw.kids0 h0 hn]
  have hp2 : parT (T ++ [(id, p)]) id = p := by rw [parT_app hn, if_pos rfl]
  have hcg : Star (NodeOf T) (N.eraseIdx i) = Star (NodeOf (T ++ [(id, p)])) (N.eraseIdx i) := Star.congr fun q hq => by
    have h1 := nodup_ix hnd hi q hq
    have h2 : q.1 ≠ id := fun e => by
      have hqN : q.1 ∈ N.map (·.1) := List.mem_map.2 ⟨q, List.mem_of_mem_eraseIdx hq, rfl⟩
      rw [hN, e] at hqN
      rcases List.mem_cons.1 hqN with h3 | h3
      · exact h0 h3
      · exact hn h3
    exact (NodeOf.same (by rw [kids_app, if_neg (fun e => h1 e.symm)]) (by rw [parT_app hn, if_neg h2])).symm
  rw [hcg, ← hk1]
  refine XE_fold (by exact FAs) (NodeOf.fold (T := T ++ [(id, p)]) (q := (p, nb)) (a := a') (n := (kids (T ++ [(id, p)]) p).length) (c := c') (p := parT T p) rfl hp1.symm) ?_
  refine XE_fold (S := [NodeOf (T ++ [(id, p)]) (p, nb), Star (NodeOf (T ++ [(id, p)])) (N.eraseIdx i)]) (by exact FAs) (nd_same hi) ?_
  refine XE_conv (fun _ h => SL_nilSl (eI .u64) h) ?_
  rw [← hk2]
  refine XE_fold (by exact FAs) (NodeOf.fold (T := T ++ [(id, p)]) (q := (id, nb2)) (a := none) (n := 0) (c := 0) (p := p) (by rw [hk2]; rfl) hp2.symm) ?_
  refine XE_fold (S := [NodeOf (T ++ [(id, p)]) (id, nb2), Star (NodeOf (T ++ [(id, p)])) N]) (by exact FAs) nd_snoc ?_
  refine XE_fold (by exact FAs) (Tre.fold (b := b) (mb := mb) (T := T ++ [(id, p)]) (N := N ++ [(id, nb2)]) (by simp [hN])) ?_
  refine XE_ret (.inl rfl) (tells_tmps rfl rfl) ⟨_, ⟨rfl, rfl⟩, by exact EN⟩
theorem tr_has (b : Nat) (T : List (Int × Int)) (id : Int) (h0 : id ≠ 0) (hi : id ∈ T.map (·.1)) : Spec Tryz.prog 174 [.pointer (some ⟨b, 0, none⟩), .int .u64 id] [Tre b T] (fun v L => v = .bool true ∧ L = [Tre b T]) := by
  refine Spec.intro (IsEnt.out) Tryz.func174 rfl Tryz.ntmps174 (by simp) (fun w0 F => ?_)
  simp only [envOf, List.zipIdx, List.map, List.cons_append, List.nil_append, Nat.zero_add, Nat.reduceAdd]
  refine X_open (A := Tre b T) (by exact FDs) Tre.open ?_
  rintro ⟨mb, N⟩ hN
  dsimp only [List.cons_append, List.nil_append] at hN ⊢
  obtain ⟨i, nb, hix, hlk⟩ := lk_ix (N := N) (id := id) (by rw [hN]; exact List.mem_cons.2 (.inr hi))
  have hlk2 : lk (ndB N) id = some (some nb) := by rw [ndB_lk, hlk]; rfl
  (repeat refine Z ?_)
  refine XO_known true (hb := by simp [h0]) (hk := ?_)
  (repeat refine Z ?_)
  refine XO_call (tr_node b mb (ndB N) id) (hk := ?_)
  rintro _ _ ⟨rfl, rfl⟩
  rw [hlk2]
  (repeat refine Z ?_)
  refine XE_fold (by exact FAs) (Tre.fold (b := b) (mb := mb) (T := T) (N := N) hN) ?_
  refine XE_ret (.inl rfl) (tells_tmps rfl rfl) ⟨_, ⟨rfl, rfl⟩, by exact EN⟩
end Go.Proofs.YtamecmklcnohjaaGreat.Sep
