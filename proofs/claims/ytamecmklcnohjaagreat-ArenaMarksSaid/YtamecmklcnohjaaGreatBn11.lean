import Derived.Test.YtamecmklcnohjaaGreatBn10
import Derived.Test.YtamecmklcnohjaaGreatBn8
/- What the laws share: a separation logic over the model, and what the program's functions do, by it. Part 11 of 15: RegP RegQ RegR Grow RegG Cur RegA RegB RegC. -/
namespace Go.Proofs.YtamecmklcnohjaaGreat.Sep
open Go.RowKit
set_option linter.unusedSimpArgs false
set_option linter.unusedVariables false
/-! regions, plain: their chunks, what an act does to them -/
/-- Bytes that may not be made. -/
abbrev badA (size align : Int) : Prop := size = 0 ∨ (needI 1 align).isSome = false
theorem need1_iff {align : Int} (h2 : 0 ≤ align) (h3 : align ≤ 18446744073709551615) : (needI 1 align).isSome = (powB align && decide (align ≤ 4096)) := by
  unfold needI
  by_cases h : 4096 < align
  · rw [if_pos (.inr h), decide_eq_false (by omega), Bool.and_false]; rfl
  · rw [if_neg (by omega), decide_eq_true (by omega), Bool.and_true]
    unfold upI
    cases hp : powB align with
    | false => rfl
    | true =>
      rw [if_pos rfl]
      have hpos : 0 < align := by
        rcases (powB_iff h2).1 hp with ⟨k, rfl⟩
        have : 0 < 2 ^ k := Nat.pow_pos (by decide)
        omega
      have := Int.emod_nonneg (-32) (show align ≠ 0 by omega)
      have := Int.emod_lt_of_pos (-32) hpos
      unfold addI
      rw [if_pos (by omega)]
      simp only [Option.bind_some]
      rw [if_pos (by omega)]
      rfl
theorem pow_dvd {align : Int} (h2 : 0 ≤ align) (hp : powB align = true) (h : align ≤ 4096) : 0 < align ∧ (4096 : Int) % align = 0 := by
  rcases (powB_iff h2).1 hp with ⟨k, rfl⟩
  have h1 : 0 < 2 ^ k := Nat.pow_pos (by decide)
  refine ⟨by omega, ?_⟩
  have hk : k ≤ 12 := by
    by_cases hk : k ≤ 12
    · exact hk
    · have : 2 ^ 13 ≤ 2 ^ k := Nat.pow_le_pow_right (by decide) (by omega)
      omega
  have h2 : 4096 % (2 ^ k) = 0 := Nat.mod_eq_zero_of_dvd (show 2 ^ k ∣ 2 ^ 12 from Nat.pow_dvd_pow 2 hk)
  generalize 2 ^ k = z at h2
  have h3 : ((4096 % z : Nat) : Int) = ((4096 : Nat) : Int) % (z : Int) := Int.natCast_emod _ _
  rw [h2] at h3
  exact h3.symm
theorem good_al {size align : Int} (h2 : 0 ≤ align) (h3 : align ≤ 18446744073709551615) (hb : ¬ badA size align) : size ≠ 0 ∧ powB align = true ∧ 0 < align ∧ align ≤ 4096 ∧ (4096 : Int) % align = 0 := by
  unfold badA at hb
  rw [not_or, need1_iff h2 h3] at hb
  obtain ⟨b1, b2⟩ := hb
  have b3 : powB align = true ∧ align ≤ 4096 := by
    cases hp : powB align with
    | false => rw [hp] at b2; simp at b2
    | true => rw [hp] at b2; simp at b2; exact ⟨rfl, b2⟩
  obtain ⟨b4, b5⟩ := pow_dvd h2 b3.1 b3.2
  exact ⟨b1, b3.1, b4, b3.2, b5⟩
/-- What a cursor makes. -/
theorem fit_some {at_ en size align : Int} {q : Int × Int × Int} (h0 : 0 ≤ at_) (h2 : 0 < align) (hs : 0 ≤ size) (h : fitI at_ en size align = some q) :
    q.1 = at_ + (-at_) % align ∧ q.2.1 = q.1 + size ∧ q.2.2 = (-at_) % align ∧ at_ ≤ q.1 ∧ q.1 % align = 0 ∧ q.2.1 ≤ en ∧ 0 ≤ (-at_) % align ∧ (-at_) % align < align := by
  unfold fitI at h
  cases hu : upI at_ align with
  | none => rw [hu] at h; cases h
  | some s =>
    rw [hu, Option.bind_some] at h
    cases ha : addI s size with
    | none => rw [ha] at h; cases h
    | some e2 =>
      rw [ha, Option.bind_some] at h
      split at h
      · cases h
      · rename_i hc
        cases h
        obtain ⟨u1, u2, u3, u4, u5⟩ := upI_le h0 (by omega) hu
        obtain ⟨a1, a2⟩ := add_le ha
        have e1 := Int.emod_nonneg (-at_) (show align ≠ 0 by omega)
        have e2 := Int.emod_lt_of_pos (-at_) h2
        refine ⟨u5, a1, by dsimp only; omega, u1, ?_, by dsimp only; omega, e1, e2⟩
        dsimp only
        rw [u5, Int.add_emod, Int.emod_emod, ← Int.add_emod, Int.add_right_neg, Int.zero_emod]
theorem fit_make {at_ en size align : Int} (h0 : 0 ≤ at_) (h2 : 0 < align) (hp : powB align = true) (hs : size ≠ 0) (hs0 : 0 ≤ size) (h : at_ + (-at_) % align + size ≤ en) (he : en < 18446744073709551616) :
    fitI at_ en size align = some (at_ + (-at_) % align, at_ + (-at_) % align + size, (-at_) % align) := by
  have e1 := Int.emod_nonneg (-at_) (show align ≠ 0 by omega)
  have hu : upI at_ align = some (at_ + (-at_) % align) := by
    unfold upI addI; rw [if_pos hp, if_pos (by omega)]
  have ha : addI (at_ + (-at_) % align) size = some (at_ + (-at_) % align + size) := by unfold addI; rw [if_pos (by omega)]
  unfold fitI
  rw [hu, Option.bind_some, ha, Option.bind_some, if_neg (by omega)]
  congr 2
  congr 1
  omega
theorem page_mod {align pg : Int} (h : (4096 : Int) % align = 0) (c : Int) : (-(pg * 4096 + c)) % align = (-c) % align := by
  have hd : align ∣ 4096 := Int.dvd_of_emod_eq_zero h
  have h1 : align ∣ pg * 4096 := Int.dvd_mul_of_dvd_right hd
  have : -(pg * 4096 + c) = -c - pg * 4096 := by omega
  rw [this, Int.sub_emod, Int.emod_eq_zero_of_dvd h1, Int.sub_zero, Int.emod_emod]
theorem ofI_run {P pg n : Int} (hP : P ≤ 1048576) (h : RunOk P (pg, n)) : ofI pg n = (pg * 4096 + 32, (pg + n) * 4096) := by
  unfold RunOk at h
  simp only at h
  unfold ofI
  rw [if_pos (by omega)]
theorem cls_bd {p : Int} (h1 : 1 ≤ p) (h2 : p ≤ 64) : cpages (cclass p) ≤ 64 ∧ p ≤ cpages (cclass p) := by
  have hc : (p ≤ 1 ∧ cclass p = 0) ∨ (p ≤ 2 ∧ 2 ≤ p ∧ cclass p = 1) ∨ (p ≤ 4 ∧ 3 ≤ p ∧ cclass p = 2) ∨ (p ≤ 8 ∧ 5 ≤ p ∧ cclass p = 3) ∨ (p ≤ 16 ∧ 9 ≤ p ∧ cclass p = 4) ∨ (p ≤ 32 ∧ 17 ≤ p ∧ cclass p = 5) ∨ (p ≤ 64 ∧ 33 ≤ p ∧ cclass p = 6) := by
    unfold cclass
    repeat' split
    all_goals omega
  rcases hc with ⟨a, b⟩ | ⟨a, a', b⟩ | ⟨a, a', b⟩ | ⟨a, a', b⟩ | ⟨a, a', b⟩ | ⟨a, a', b⟩ | ⟨a, a', b⟩ <;> rw [b]
  · exact ⟨by decide, a⟩
  · exact ⟨by decide, a⟩
  · exact ⟨by decide, a⟩
  · exact ⟨by decide, a⟩
  · exact ⟨by decide, a⟩
  · exact ⟨by decide, a⟩
  · exact ⟨by decide, a⟩
/-- A chunk that is made for bytes has room for them. -/
theorem chunk_fit {P size align n pg : Int} {big : Bool} (h0 : 0 ≤ size) (h2 : 0 ≤ align) (h3 : align ≤ 18446744073709551615) (hb : ¬ badA size align) (hc : chunkI size align = (n, big, true)) (hP : P ≤ 1048576) (hr : RunOk P (pg, n)) :
    fitI (ofI pg n).1 (ofI pg n).2 size align = some (pg * 4096 + 32 + (-32) % align, pg * 4096 + 32 + (-32) % align + size, (-32) % align) ∧ 0 ≤ (-32) % align ∧ (-32) % align < align ∧
      (if big = true then 64 < n ∧ n = (32 + (-32) % align + size + 4095) / 4096 else n ≤ 64 ∧ (32 + (-32) % align + size + 4095) / 4096 ≤ n) := by
  obtain ⟨g1, g2, g3, g4, g5⟩ := good_al h2 h3 hb
  have e1 := Int.emod_nonneg (-32) (show align ≠ 0 by omega)
  have e2 := Int.emod_lt_of_pos (-32) g3
  have hc0 := hc
  obtain ⟨c1, c2, c3⟩ := chunk_n h0 h2 hc
  unfold chunkI at hc
  cases hn : needI size align with
  | none => rw [hn] at hc; cases hc
  | some k =>
    have hk0 := need_le h0 h2 hn
    have hk : k = (32 + (-32) % align + size + 4095) / 4096 := by
      unfold needI at hn
      rw [if_neg (by omega)] at hn
      have hu : upI 32 align = some (32 + (-32) % align) := by unfold upI addI; rw [if_pos g2, if_pos (by omega)]
      rw [hu, Option.bind_some] at hn
      cases ha : addI (32 + (-32) % align) size with
      | none => rw [ha] at hn; cases hn
      | some s =>
        rw [ha] at hn
        have := (add_le ha).1
        cases hn
        rw [this]
    rw [hn] at hc
    simp only at hc
    have hbn : (if big = true then 64 < n ∧ n = k else n ≤ 64 ∧ k ≤ n) := by
      split at hc
      · cases hc
      · split at hc
        · rename_i h5 h6
          cases hc
          exact ⟨h6, rfl⟩
        · rename_i h5 h6
          cases hc
          exact cls_bd (by omega) (by omega)
    have hkn : k ≤ n := by
      cases big
      · exact hbn.2
      · have := hbn.2; omega
    have hr' := hr
    unfold RunOk at hr'
    simp only at hr'
    refine ⟨?_, e1, e2, by rw [← hk]; exact hbn⟩
    rw [ofI_run hP hr]
    have hm := page_mod g5 32 (pg := pg)
    have := fit_make (at_ := pg * 4096 + 32) (en := (pg + n) * 4096) (size := size) (align := align) (by omega) g3 g2 g1 h0 (by rw [hm]; omega) (by omega)
    rw [this, hm]
end Go.Proofs.YtamecmklcnohjaaGreat.Sep
namespace Go.Proofs.YtamecmklcnohjaaGreat.Sep
open Go.RowKit
set_option linter.unusedSimpArgs false
set_option linter.unusedVariables false
/-! regions, plain: what stands behind each act -/
/-- Bytes change behind the header of one chunk: all headers stay. -/
theorem KInv.mem {C : Co} {m m' : Int → Int} {got : List (Int × Hd)} {p : Int} {hd : Hd} (h : KInv C m got) (hq : (p, hd) ∈ got) (hm : ∀ a, ¬ (p * 4096 + 32 ≤ a ∧ a < (p + hd.pages) * 4096) → m' a = m a) : KInv C m' got := by
  refine ⟨h.ci, h.run, h.part, h.tot, fun q hqq => ⟨?_, (h.hdr q hqq).2⟩⟩
  rw [← (h.hdr q hqq).1]
  refine rdM_ext fun a h0 h1 => hm a fun h2 => ?_
  obtain ⟨l1, l2, rfl⟩ := List.append_of_mem hq
  have hrp : RunOk C.P (p, hd.pages) := h.run (p, hd) hq
  have hq2 : q = (p, hd) ∨ q ∈ l1 ++ l2 := by
    rcases List.mem_append.1 hqq with h3 | h3
    · exact .inr (by simp [h3])
    · rcases List.mem_cons.1 h3 with h3 | h3
      · exact .inl h3
      · exact .inr (by simp [h3])
  rcases hq2 with rfl | hq2
  · simp only at h0 h1; omega
  · have h3 := h.part q.1
    have h4 := part_le1 (x := q.1) (P := C.P)
    have h5 : cnt q.1 (gr (l1 ++ (p, hd) :: l2)) = cnt q.1 (gr (l1 ++ l2)) + ind q.1 (p, hd.pages) := by
      rw [gr_app, gr_app, cnt_append, cnt_append]
      show _ + (ind q.1 (p, hd.pages) + cnt q.1 (gr l2)) = _
      omega
    have h6 : ind q.1 (p, hd.pages) = 1 := by unfold ind; rw [if_pos]; simp only; omega
    have h7 := cnt_mem (x := q.1) (r := (q.1, q.2.pages)) (l := gr (l1 ++ l2)) (List.mem_map.2 ⟨q, hq2, rfl⟩)
    have hrq : RunOk C.P (q.1, q.2.pages) := h.run q (by rcases List.mem_append.1 hq2 with hq | hq <;> simp [hq])
    have h8 : ind q.1 (q.1, q.2.pages) = 1 := ind_self hrq.2.1
    have h9 := cC_nn q.1 C
    omega
/-- A region's chunks, with their headers. -/
def gotR (o : Int) (s : Sh) : List (Int × Hd) := plH 0 o 0 (s.parts.map runP) ++ plH 1 o 0 s.larges
theorem gotR_cnt (o x : Int) (s : Sh) : cnt x (gr (gotR o s)) = cS x s := by unfold gotR cS; rw [gr_app, cnt_append, plH_gr, plH_gr]
theorem gotR_setTop (o : Int) (s : Sh) (a b c : Int) : gotR o (setTop s a b c) = gotR o s := by unfold gotR setTop; simp only; rw [setLast_runP]
/-- A shared chunk and its cursor. -/
def PtOk (p : Part) : Prop := p.2.2.2 = (p.1 + p.2.1) * 4096 ∧ p.1 * 4096 + 32 ≤ p.2.2.1 ∧ p.2.2.1 ≤ p.2.2.2 ∧ p.2.1 ≤ 64
structure RInv (P : Int) (B : Nat) (o : Int) (C : Co) (m : Int → Int) (s : Sh) (oth : List (Int × Hd)) : Prop where
  K : KInv C m (gotR o s ++ oth)
  hP : C.P = P
  S : SInv P B s
  po : ∀ p ∈ s.parts, PtOk p
theorem RInv.up {P : Int} {B : Nat} {o : Int} {C : Co} {m : Int → Int} {s : Sh} {oth : List (Int × Hd)} (h : RInv P B o C m s oth) : RInv P (B + 1) o C m s oth := ⟨h.K, h.hP, h.S.up, h.po⟩
theorem RInv.le {P : Int} {B B' : Nat} {o : Int} {C : Co} {m : Int → Int} {s : Sh} {oth : List (Int × Hd)} (h : RInv P B o C m s oth) (hB : B ≤ B') : RInv P B' o C m s oth := ⟨h.K, h.hP, ⟨h.S.ok, h.S.pi, Nat.le_trans h.S.lp hB, Nat.le_trans h.S.ll hB⟩, h.po⟩
theorem RInv.P1 {P : Int} {B : Nat} {o : Int} {C : Co} {m : Int → Int} {s : Sh} {oth : List (Int × Hd)} (h : RInv P B o C m s oth) : 1 ≤ P ∧ P ≤ 1048576 := by
  have h1 := h.K.ci.ok.p1
  have h2 := h.K.ci.ok.p2
  rw [h.hP] at h1 h2
  exact ⟨h1, h2⟩
theorem kruns {C : Co} {m : Int → Int} {got : List (Int × Hd)} (h : KInv C m got) : got.length ≤ 1048576 := by
  have h1 := h.tot
  have h2 : ∀ r ∈ gr got, 1 ≤ r.2 := fun r hr => by
    obtain ⟨q, hq, rfl⟩ := List.mem_map.1 hr
    exact (h.run q hq).2.1
  have h3 : ∀ l : List (Int × Int), (∀ r ∈ l, 1 ≤ r.2) → (l.length : Int) ≤ totI l := by
    intro l
    induction l with
    | nil => intro _; exact Int.le_refl _
    | cons r l ih =>
      intro h
      have := h r (by simp)
      have := ih fun q hq => h q (by simp [hq])
      rw [tot_cons]; simp; omega
  have h4 := h3 _ h2
  have h5 : 0 ≤ tC C := by
    have a1 := h3 C.fr fun r hr => (rf_mem h.ci.ok.right r hr).2.1
    have a2 := h3 (kall C.ks 7) fun r hr => (kall_bd h.ci.ok hr).2.2.1
    unfold tC; omega
  have h6 := h.ci.ok.p2
  have h7 : (gr got).length = got.length := by simp [gr]
  omega
theorem RInv.len {P : Int} {B : Nat} {o : Int} {C : Co} {m : Int → Int} {s : Sh} {oth : List (Int × Hd)} (h : RInv P B o C m s oth) : s.parts.length ≤ 1048576 ∧ s.larges.length ≤ 1048576 := by
  have h1 := kruns h.K
  unfold gotR at h1
  simp only [List.length_append, plH_len, List.length_map] at h1
  omega
theorem RInv.cur {P : Int} {B : Nat} {o : Int} {C : Co} {m : Int → Int} {s : Sh} {oth : List (Int × Hd)} (h : RInv P B o C m s oth) (hne : s.parts ≠ []) :
    lastP s.parts ∈ s.parts ∧ RunOk P (runP (lastP s.parts)) ∧ PtOk (lastP s.parts) := ⟨last_mem hne, h.S.pi.parts _ (List.mem_map.2 ⟨_, last_mem hne, rfl⟩), h.po _ (last_mem hne)⟩
/-- What is made, and what becomes of the region, its store and its space. -/
inductive AR (P : Int) (C : Co) (m : Mm) (s : Sh) (o size align : Int) : Co → Mm → Sh → Int → Int → Prop
  | bad : badA size align → AR P C m s o size align C m s 0 1
  | fit (q : Int × Int × Int) : ¬ badA size align → fitI (topAt s) (topEnd s) size align = some q → AR P C m s o size align C m (setTop s q.2.1 (IntKind.u64.wrap (s.obj + size)) (IntKind.u64.wrap (s.pad + q.2.2))) q.1 0
  | huge : ¬ badA size align → fitI (topAt s) (topEnd s) size align = none → (chunkI size align).2.2 = false → AR P C m s o size align C m s 0 4
  | full (n : Int) (big : Bool) : ¬ badA size align → fitI (topAt s) (topEnd s) size align = none → chunkI size align = (n, big, true) → (getC C n).2.2 ≠ 0 → AR P C m s o size align (trimC C) m s 0 4
  | big (n pg : Int) : ¬ badA size align → fitI (topAt s) (topEnd s) size align = none → chunkI size align = (n, true, true) → (getC C n).2 = (pg, 0) →
      AR P C m s o size align (getC C n).1 (zzM (pushM P m 1 o (lastL 0 s.larges) pg n) (pg * 4096 + 32) (n * 4096 - 32)) ⟨s.parts, s.larges ++ [(pg, n)], IntKind.u64.wrap (s.obj + size), IntKind.u64.wrap (s.pad + (-32) % align)⟩ (pg * 4096 + 32 + (-32) % align) 0
  | part (n pg : Int) : ¬ badA size align → fitI (topAt s) (topEnd s) size align = none → chunkI size align = (n, false, true) → (getC C n).2 = (pg, 0) →
      AR P C m s o size align (getC C n).1 (zzM (pushM P m 0 o (lastL 0 (s.parts.map runP)) pg n) (pg * 4096 + 32) (n * 4096 - 32)) ⟨s.parts ++ [(pg, n, pg * 4096 + 32 + (-32) % align + size, (pg + n) * 4096)], s.larges, IntKind.u64.wrap (s.obj + size), IntKind.u64.wrap (s.pad + (-32) % align)⟩ (pg * 4096 + 32 + (-32) % align) 0
theorem setLast_app (l : List Part) (x : Part) (a : Int) : setLast (l ++ [x]) a = l ++ [(x.1, x.2.1, a, x.2.2.2)] := by
  unfold setLast
  rw [lastP_append]
  simp
theorem rnd_chunk {size align n : Int} {big : Bool} (h0 : 0 ≤ size) (h2 : 0 ≤ align) (hc : chunkI size align = (n, big, true)) : rnd n = n ∧ ¬ bad n 0 ∧ ¬ bad n 1 ∧ 1 ≤ n ∧ n ≤ 1048576 := by
  obtain ⟨c1, c2, c3⟩ := chunk_n h0 h2 hc
  refine ⟨?_, by unfold bad; omega, by unfold bad; omega, c1, c3⟩
  unfold rnd
  by_cases h : 0 ≤ cclass n
  · rw [c2 h]; omega
  · have : cpages (cclass n) = 0 := by unfold cpages; rw [if_neg (by omega)]
    omega
/-- It is the shadow's law. -/
theorem AR.shadow {P : Int} {B : Nat} {o : Int} {C C' : Co} {m m' : Mm} {s s' : Sh} {oth : List (Int × Hd)} {size align at_ e : Int} (hR : RInv P B o C m.f s oth) (ho : 0 ≤ o ∧ o < 18446744073709551616) (h0 : 0 ≤ size) (h2 : 0 ≤ align) (h3 : align ≤ 18446744073709551615) (h : AR P C m s o size align C' m' s' at_ e) : allocS C s size align = ((C', s'), e) := by
  have hP := hR.P1.2
  unfold allocS madeS
  cases h with
  | bad hb => rw [if_pos hb]
  | fit q hb hf => rw [if_neg hb, hf]; rfl
  | huge hb hf hc => rw [if_neg hb, hf]; simp only [Option.map_none]; rw [if_pos hc]
  | full n big hb hf hc hz =>
    rw [if_neg hb, hf]; simp only [Option.map_none]; rw [hc, if_neg (by simp)]
    unfold growS
    obtain ⟨g1, g2, -⟩ := get_full hR.K.ci.ok (chunk_n h0 h2 hc).1 hz
    rw [if_neg hz, g1, g2]
  | big n pg hb hf hc hz =>
    have hr : RunOk P (pg, n) := by
      obtain ⟨r1, r2, r3, r4, r5⟩ := rnd_chunk h0 h2 hc
      have := get_hr hR.K n 1 o ho r3 (by rw [r1, hz])
      rw [r1, hz, hR.hP] at this
      exact this
    obtain ⟨f1, f2⟩ := chunk_fit h0 h2 h3 hb hc hP hr
    rw [if_neg hb, hf]; simp only [Option.map_none]; rw [hc, if_neg (by simp)]
    unfold growS
    rw [hz]
    simp only [if_true]
    rw [f1]
    rfl
  | part n pg hb hf hc hz =>
    have hr : RunOk P (pg, n) := by
      obtain ⟨r1, r2, r3, r4, r5⟩ := rnd_chunk h0 h2 hc
      have := get_hr hR.K n 0 o ho r2 (by rw [r1, hz])
      rw [r1, hz, hR.hP] at this
      exact this
    obtain ⟨f1, f2⟩ := chunk_fit h0 h2 h3 hb hc hP hr
    rw [if_neg hb, hf]; simp only [Option.map_none]; rw [hc, if_neg (by simp)]
    unfold growS
    rw [hz]
    simp only [if_true]
    rw [if_neg (by simp)]
    have htA : topAt (partS s (pg, n) (ofI pg n)) = (ofI pg n).1 := by unfold topAt partS; rw [lastP_append]
    have htE : topEnd (partS s (pg, n) (ofI pg n)) = (ofI pg n).2 := by unfold topEnd partS; rw [lastP_append]
    unfold madeS
    rw [htA, htE, f1]
    simp only [Option.map_some, Option.getD_some]
    unfold setTop partS
    simp only
    rw [setLast_app]
    simp only
    rw [ofI_run hP hr]
/-- Something comes of each alloc. -/
theorem AR.ex (P : Int) (C : Co) (m : Mm) (s : Sh) (o size align : Int) : ∃ C' m' s' at_ e, AR P C m s o size align C' m' s' at_ e := by
  by_cases hb : badA size align
  · exact ⟨_, _, _, _, _, .bad hb⟩
  cases hf : fitI (topAt s) (topEnd s) size align with
  | some q => exact ⟨_, _, _, _, _, .fit q hb hf⟩
  | none =>
    obtain ⟨n, big, ok, hc⟩ : ∃ n big ok, chunkI size align = (n, big, ok) := ⟨_, _, _, rfl⟩
    cases ok with
    | false => exact ⟨_, _, _, _, _, .huge hb hf (by rw [hc])⟩
    | true =>
      by_cases hz : (getC C n).2.2 = 0
      · cases big with
        | true => exact ⟨_, _, _, _, _, .big n (getC C n).2.1 hb hf hc (by rw [← hz])⟩
        | false => exact ⟨_, _, _, _, _, .part n (getC C n).2.1 hb hf hc (by rw [← hz])⟩
      · exact ⟨_, _, _, _, _, .full n big hb hf hc hz⟩
theorem zz_mem {m : Mm} {pg n : Int} (h : 1 ≤ n) : ∀ a, ¬ (pg * 4096 + 32 ≤ a ∧ a < (pg + n) * 4096) → (zzM m (pg * 4096 + 32) (n * 4096 - 32)).f a = m.f a := fun a ha => by
  show (if _ then _ else _) = _
  rw [if_neg (by omega)]
theorem AR.inv {P : Int} {B : Nat} {o : Int} {C C' : Co} {m m' : Mm} {s s' : Sh} {oth : List (Int × Hd)} {size align at_ e : Int} (hR : RInv P B o C m.f s oth) (ho : 0 ≤ o ∧ o < 18446744073709551616) (h0 : 0 ≤ size) (h2 : 0 ≤ align) (h3 : align ≤ 18446744073709551615) (h : AR P C m s o size align C' m' s' at_ e) :
    RInv P (B + 1) o C' m'.f s' oth := by
  have hsh := h.shadow hR ho h0 h2 h3
  have hP := hR.P1.2
  have hd : ∀ x, cC x C + cS x s ≤ 1 := fun x => by
    have a1 := hR.K.part x
    have a2 := part_le1 (x := x) (P := C.P)
    rw [gr_app, cnt_append, gotR_cnt] at a1
    have a3 := cnt_nn x (gr oth)
    omega
  have hai := alloc_inv (C := C) (B := B) (s := s) (size := size) (align := align) hR.K.ci (by rw [hR.hP]; exact hR.S) hd h0 h2
  rw [hsh] at hai
  obtain ⟨-, i2, i3, -, -⟩ := hai
  simp only at i2 i3
  rw [hR.hP] at i2 i3
  cases h with
  | bad hb => exact hR.up
  | fit q hb hf =>
    obtain ⟨g1, g2, g3, g4, g5⟩ := good_al h2 h3 hb
    refine ⟨by rw [gotR_setTop]; exact hR.K, i2, i3, fun p hp => ?_⟩
    have hp : p ∈ setLast s.parts q.2.1 := hp
    unfold setLast at hp
    rcases List.mem_or_eq_of_mem_set hp with hp | rfl
    · exact hR.po p hp
    · have hne : s.parts ≠ [] := by rintro h0; rw [h0] at hp; simp at hp
      obtain ⟨c1, c2, c3⟩ := hR.cur hne
      have htb := top_bd hR.S.ok
      obtain ⟨f1, f2, f3, f4, f5, f6, f7⟩ := fit_some htb.1 g3 h0 hf
      unfold PtOk at c3 ⊢
      unfold topAt topEnd at *
      simp only
      omega
  | huge hb hf hc => exact hR.up
  | full n big hb hf hc hz => exact ⟨ktrim hR.K, i2, i3, hR.po⟩
  | big n pg hb hf hc hz =>
    obtain ⟨r1, r2, r3, r4, r5⟩ := rnd_chunk h0 h2 hc
    have hz0 : (getC C (rnd n)).2.2 = 0 := by rw [r1, hz]
    have hK1 : KInv C m.f (plH 1 o 0 s.larges ++ (plH 0 o 0 (s.parts.map runP) ++ oth)) := by
      refine hR.K.perm ?_
      unfold gotR
      exact ((List.perm_append_comm).append_right oth).trans (List.Perm.of_eq (List.append_assoc _ _ _))
    obtain ⟨k1, k2⟩ := ppush_inv hK1 hR.hP ho r3 hz0
    rw [r1, hz] at k1
    rw [r1] at k2
    simp only at k1
    have k3 := k1.mem (p := pg) (hd := ⟨n, 1, o, lastL 0 s.larges⟩) (by rw [plH_snoc]; simp) (zz_mem (pg := pg) (n := n) r4)
    refine ⟨k3.perm ?_, i2, i3, hR.po⟩
    unfold gotR
    simp only
    rw [← List.append_assoc]
    exact (List.perm_append_comm).append_right oth
  | part n pg hb hf hc hz =>
    obtain ⟨r1, r2, r3, r4, r5⟩ := rnd_chunk h0 h2 hc
    have hz0 : (getC C (rnd n)).2.2 = 0 := by rw [r1, hz]
    have hK1 : KInv C m.f (plH 0 o 0 (s.parts.map runP) ++ (plH 1 o 0 s.larges ++ oth)) := by
      have := hR.K
      unfold gotR at this
      rw [List.append_assoc] at this
      exact this
    obtain ⟨k1, k2⟩ := ppush_inv hK1 hR.hP ho r2 hz0
    rw [r1, hz] at k1
    rw [r1] at k2
    simp only at k1
    have k3 := k1.mem (p := pg) (hd := ⟨n, 0, o, lastL 0 (s.parts.map runP)⟩) (by rw [plH_snoc]; simp) (zz_mem (pg := pg) (n := n) r4)
    have hr : RunOk P (pg, n) := by
      have := get_hr hR.K n 0 o ho r2 hz0
      rw [r1, hz, hR.hP] at this
      exact this
    obtain ⟨f1, f2, f3, f4⟩ := chunk_fit h0 h2 h3 hb hc hP hr
    refine ⟨?_, i2, i3, fun p hp => ?_⟩
    · unfold gotR
      simp only [List.map_append, List.map_cons, List.map_nil, runP]
      rw [List.append_assoc]
      exact k3
    · rcases List.mem_append.1 hp with hp | hp
      · exact hR.po p hp
      · simp at hp
        subst hp
        unfold PtOk
        rw [if_neg (by simp)] at f4
        refine ⟨rfl, ?_, ?_, f4.1⟩
        · show pg * 4096 + 32 ≤ pg * 4096 + 32 + (-32) % align + size
          omega
        · show pg * 4096 + 32 + (-32) % align + size ≤ (pg + n) * 4096
          omega
end Go.Proofs.YtamecmklcnohjaaGreat.Sep
namespace Go.Proofs.YtamecmklcnohjaaGreat.Sep
open Go.RowKit
set_option linter.unusedSimpArgs false
set_option linter.unusedVariables false
/-! regions, plain: rewound -/
def rewM (P : Int) (m : Mm) (s : Sh) (mc ml at_ : Int) : Mm :=
  if at_ < topAt (cutS s mc ml) then zzM (cutM P (cutM P m (s.larges.drop ml.toNat)) ((s.parts.map runP).drop mc.toNat)) at_ (topAt (cutS s mc ml) - at_)
  else cutM P (cutM P m (s.larges.drop ml.toNat)) ((s.parts.map runP).drop mc.toNat)
theorem fits_bds {s : Sh} {mc ml at_ : Int} (h : fitsS s mc ml at_ = true) : 0 ≤ mc ∧ mc ≤ s.parts.length ∧ 0 ≤ ml ∧ ml ≤ s.larges.length ∧ (mc = 0 → at_ = 0) ∧
    (mc ≠ 0 → (cutS s mc ml).parts ≠ [] ∧ lastP (cutS s mc ml).parts = s.parts.getD (mc.toNat - 1) (0, 0, 0, 0) ∧ (ofI (lastP (cutS s mc ml).parts).1 (lastP (cutS s mc ml).parts).2.1).1 ≤ at_ ∧ at_ ≤ topAt (cutS s mc ml)) := by
  unfold fitsS at h
  split at h
  · cases h
  · rename_i hb
    split at h
    · rename_i h0
      refine ⟨by omega, by omega, by omega, by omega, fun _ => by simpa using h, fun hn => absurd h0 hn⟩
    · rename_i h0
      simp only [Bool.and_eq_true, decide_eq_true_eq] at h
      have hlen : (cutS s mc ml).parts.length = mc.toNat := by simp [cutS]; omega
      have hlast : lastP (cutS s mc ml).parts = s.parts.getD (mc.toNat - 1) (0, 0, 0, 0) := by
        unfold lastP
        rw [hlen]
        simp only [cutS, List.getD]
        rw [List.getElem?_take_of_lt (by omega)]
      refine ⟨by omega, by omega, by omega, by omega, fun h1 => absurd h1 h0, fun _ => ⟨?_, hlast, ?_, ?_⟩⟩
      · intro hn; rw [hn] at hlen; simp at hlen; omega
      · rw [hlast]; exact h.1
      · unfold topAt; rw [hlast]; exact h.2
theorem cut_runs (s : Sh) (mc ml : Int) : (cutS s mc ml).parts.map runP = (s.parts.map runP).take mc.toNat := by simp [cutS, List.map_take]
theorem rew_inv {P : Int} {B : Nat} {o : Int} {C : Co} {m : Mm} {s : Sh} {oth : List (Int × Hd)} {mc ml at_ ob pd : Int} (hR : RInv P B o C m.f s oth) (hf : fitsS s mc ml at_ = true) (h0 : 0 ≤ at_) (ho : 0 ≤ ob ∧ ob ≤ 18446744073709551615) (hp : 0 ≤ pd ∧ pd ≤ 18446744073709551615) :
    RInv P B o (putsC C s mc ml) (rewM P m s mc ml at_).f (setTop (cutS s mc ml) at_ ob pd) oth := by
  obtain ⟨f1, f2, f3, f4, f5, f6⟩ := fits_bds hf
  have hP := hR.P1
  obtain ⟨hl1, hl2⟩ := hR.len
  have hK1 : KInv C m.f (plH 1 o 0 s.larges ++ (plH 0 o 0 (s.parts.map runP) ++ oth)) := by
    refine hR.K.perm ?_
    unfold gotR
    exact ((List.perm_append_comm).append_right oth).trans (List.Perm.of_eq (List.append_assoc _ _ _))
  obtain ⟨k1, k2⟩ := pcut_inv hK1 hR.hP hl2 ml.toNat
  have hK2 : KInv (cutC C (s.larges.drop ml.toNat)) (cutM P m (s.larges.drop ml.toNat)).f (plH 0 o 0 (s.parts.map runP) ++ (plH 1 o 0 (s.larges.take ml.toNat) ++ oth)) := by
    refine k1.perm ?_
    refine (List.Perm.of_eq (List.append_assoc _ _ _).symm).trans (((List.perm_append_comm).append_right oth).trans (List.Perm.of_eq (List.append_assoc _ _ _)))
  obtain ⟨k3, k4⟩ := pcut_inv hK2 k2 (by simp; exact hl1) mc.toNat
  have hg : plH 0 o 0 ((s.parts.map runP).take mc.toNat) ++ (plH 1 o 0 (s.larges.take ml.toNat) ++ oth) = gotR o (cutS s mc ml) ++ oth := by
    unfold gotR; rw [cut_runs, List.append_assoc]; rfl
  rw [hg] at k3
  have hC : putsC C s mc ml = cutC (cutC C (s.larges.drop ml.toNat)) ((s.parts.map runP).drop mc.toNat) := rfl
  rw [← hC] at k3 k4
  have hsub : ∀ p ∈ (cutS s mc ml).parts, p ∈ s.parts := fun p hp => List.mem_of_mem_take hp
  have hsubl : ∀ r ∈ (cutS s mc ml).larges, r ∈ s.larges := fun p hp => List.mem_of_mem_take hp
  have hcut : SInv P B (cutS s mc ml) := by
    refine ⟨⟨fun p hp => hR.S.ok.parts p (hsub p hp), fun r hr => hR.S.ok.larges r (hsubl r hr), hR.S.ok.obj, hR.S.ok.pad⟩, ⟨fun r hr => ?_, fun r hr => hR.S.pi.larges r (hsubl r hr)⟩, ?_, ?_⟩
    · obtain ⟨p, hp, rfl⟩ := List.mem_map.1 hr
      exact hR.S.pi.parts _ (List.mem_map.2 ⟨p, hsub p hp, rfl⟩)
    · have := hR.S.lp; simp [cutS]; omega
    · have := hR.S.ll; simp [cutS]; omega
  have htb := top_bd hcut.ok
  have hat : 0 ≤ at_ ∧ at_ ≤ 18446744073709551615 := by
    by_cases h : mc = 0
    · have := f5 h; omega
    · have := (f6 h).2.2.2; omega
  refine ⟨?_, k4, (setTop_inv hcut hat ho hp).1, fun p hp => ?_⟩
  · rw [gotR_setTop]
    unfold rewM
    split
    · rename_i hlt
      have hmc : mc ≠ 0 := by
        intro h
        have h1 := f5 h
        have : topAt (cutS s mc ml) = 0 := by unfold topAt cutS; rw [h]; rfl
        omega
      obtain ⟨e1, e2, e3, e4⟩ := f6 hmc
      have hm1 := last_mem e1
      have hrun := hcut.pi.parts _ (List.mem_map.2 ⟨_, hm1, rfl⟩)
      have hpo := hR.po _ (hsub _ hm1)
      have hmem : ∃ nx, (((lastP (cutS s mc ml).parts).1, (⟨(lastP (cutS s mc ml).parts).2.1, 0, o, nx⟩ : Hd))) ∈ gotR o (cutS s mc ml) ++ oth := by
        have : (runP (lastP (cutS s mc ml).parts)) ∈ gr (plH 0 o 0 ((cutS s mc ml).parts.map runP)) := by rw [plH_gr]; exact List.mem_map.2 ⟨_, hm1, rfl⟩
        obtain ⟨⟨q1, q2⟩, hq, he⟩ := List.mem_map.1 this
        have hq2 : ∀ (l : List (Int × Int)) (nx : Int), (q1, q2) ∈ plH 0 o nx l → q2.kind = 0 ∧ q2.owner = o := by
          intro l
          induction l with
          | nil => intro nx h; cases h
          | cons r l ih =>
            intro nx h
            rcases List.mem_cons.1 h with h | h
            · cases h; exact ⟨rfl, rfl⟩
            · exact ih _ h
        obtain ⟨h1, h2⟩ := hq2 _ _ hq
        obtain ⟨pp, kk, oo, nn⟩ := q2
        simp only at h1 h2
        subst h1 h2
        refine ⟨nn, ?_⟩
        unfold runP at he
        injection he with e5 e6
        subst e5
        simp only at e6
        rw [← e6]
        unfold gotR
        simp [hq]
      obtain ⟨nx, hmem⟩ := hmem
      refine k3.mem hmem fun a ha => ?_
      show (if _ then _ else _) = _
      rw [ofI_run hP.2 hrun] at e3
      unfold PtOk at hpo
      unfold topAt at hlt ⊢
      simp only at e3 ha ⊢
      rw [if_neg (by omega)]
    · exact k3
  · have hp : p ∈ setLast (cutS s mc ml).parts at_ := hp
    unfold setLast at hp
    rcases List.mem_or_eq_of_mem_set hp with hp | rfl
    · exact hR.po p (hsub p hp)
    · have hne : (cutS s mc ml).parts ≠ [] := by rintro h0; rw [h0] at hp; simp at hp
      have hmc : mc ≠ 0 := by
        intro h
        apply hne
        unfold cutS; rw [h]; rfl
      obtain ⟨e1, e2, e3, e4⟩ := f6 hmc
      have hm1 := last_mem e1
      have hrun := hcut.pi.parts _ (List.mem_map.2 ⟨_, hm1, rfl⟩)
      have hpo := hR.po _ (hsub _ hm1)
      rw [ofI_run hP.2 hrun] at e3
      unfold PtOk at hpo ⊢
      unfold topAt at e4
      simp only at e3 ⊢
      omega
theorem rew_shadow {C : Co} {s : Sh} {mc ml at_ ob pd : Int} (hf : fitsS s mc ml at_ = true) : rewS C s mc ml at_ ob pd = some (putsC C s mc ml, setTop (cutS s mc ml) at_ ob pd) := by
  unfold rewS
  rw [if_pos hf]
  split
  · rename_i h
    simp only [List.cons.injEq, and_true] at h
    obtain ⟨rfl, rfl, rfl, rfl, rfl⟩ := h
    rfl
  · rfl
end Go.Proofs.YtamecmklcnohjaaGreat.Sep
namespace Go.Proofs.YtamecmklcnohjaaGreat.Sep
open Go.RowKit
set_option linter.unusedSimpArgs false
set_option linter.unusedVariables false
/-! the plain law of marks: rewound, a region is as it was -/
theorem setLast_append (l t : List Part) (a : Int) (h : t ≠ []) : setLast (l ++ t) a = l ++ setLast t a := by
  have hp : 0 < t.length := List.length_pos_iff.2 h
  have hl : lastP (l ++ t) = lastP t := by
    unfold lastP
    rw [List.length_append, show l.length + t.length - 1 = l.length + (t.length - 1) from by omega]
    simp only [List.getD, List.getElem?_append_right (Nat.le_add_right _ _), Nat.add_sub_cancel_left]
  unfold setLast
  rw [hl, List.length_append, show l.length + t.length - 1 = l.length + (t.length - 1) from by omega, List.set_append_right _ _ (Nat.le_add_right _ _), Nat.add_sub_cancel_left]
theorem lastP_setLast (l : List Part) (a : Int) (h : l ≠ []) : lastP (setLast l a) = ((lastP l).1, (lastP l).2.1, a, (lastP l).2.2.2) := by
  have hp : 0 < l.length := List.length_pos_iff.2 h
  have hi : l.length - 1 < l.length := by omega
  unfold lastP
  rw [setLast_length]
  unfold setLast
  simp [List.getD, hi, lastP]
theorem setLast_setLast (l : List Part) (a a' : Int) : setLast (setLast l a) a' = setLast l a' := by
  by_cases h : l = []
  · subst h; rfl
  · have h1 := lastP_setLast l a h
    unfold setLast at h1 ⊢
    rw [h1]
    simp
/-- What a region has grown to since: its last chunk may be fuller, and there may be more. -/
structure Grow (s0 s : Sh) : Prop where
  parts : ∃ a t, s.parts = setLast s0.parts a ++ t ∧ topAt s0 ≤ a
  larges : ∃ t, s.larges = s0.larges ++ t
theorem Grow.refl (s : Sh) : Grow s s := ⟨⟨topAt s, [], by rw [List.append_nil]; exact (setLast_self _).symm, Int.le_refl _⟩, ⟨[], (List.append_nil _).symm⟩⟩
theorem Grow.top {s0 s : Sh} {en o p : Int} (h : Grow s0 s) (ht : topAt s ≤ en) : Grow s0 (setTop s en o p) := by
  obtain ⟨⟨a, t, h1, h2⟩, h3⟩ := h
  refine ⟨?_, h3⟩
  show ∃ a t, setLast s.parts en = setLast s0.parts a ++ t ∧ topAt s0 ≤ a
  by_cases h0 : t = []
  · subst h0
    rw [List.append_nil] at h1
    by_cases hn : s0.parts = []
    · refine ⟨a, [], ?_, h2⟩
      rw [h1, hn]; rfl
    · refine ⟨en, [], by rw [h1, setLast_setLast, List.append_nil], ?_⟩
      have : topAt s = a := by unfold topAt; rw [h1, lastP_setLast _ _ hn]
      omega
  · exact ⟨a, setLast t en, by rw [h1, setLast_append _ _ _ h0], h2⟩
theorem Grow.part {s0 s : Sh} {r cur : Int × Int} (h : Grow s0 s) : Grow s0 (partS s r cur) := by
  obtain ⟨⟨a, t, h1, h2⟩, h3⟩ := h
  exact ⟨⟨a, t ++ [(r.1, r.2, cur.1, cur.2)], by unfold partS; simp only; rw [h1, List.append_assoc], h2⟩, h3⟩
theorem Grow.big {s0 s : Sh} {r : Int × Int} {size : Int} (f : Option (Int × Int × Int)) (h : Grow s0 s) : Grow s0 (bigS s r size f) := by
  have hp : (bigS s r size f).parts = s.parts := by cases f <;> rfl
  have hl : (bigS s r size f).larges = s.larges ++ [r] := by cases f <;> rfl
  obtain ⟨h1, ⟨t, h3⟩⟩ := h
  exact ⟨by rw [hp]; exact h1, ⟨t ++ [r], by rw [hl, h3, List.append_assoc]⟩⟩
theorem Grow.made {s0 s s' : Sh} {size align : Int} (h : Grow s0 s) (hs : ShOk s) (h0 : 0 ≤ size) (h2 : 0 ≤ align) (hm : madeS s size align = some s') : Grow s0 s' := by
  unfold madeS at hm
  cases hf : fitI (topAt s) (topEnd s) size align with
  | none => rw [hf] at hm; cases hm
  | some q =>
    rw [hf, Option.map_some, Option.some.injEq] at hm
    subst hm
    exact h.top (fit_bd (top_bd hs).1 h2 h0 hf).1
theorem Grow.alloc {C : Co} {B : Nat} {s0 s : Sh} {size align : Int} (h : Grow s0 s) (hC : CInv C) (hs : SInv C.P B s) (hd : ∀ x, cC x C + cS x s ≤ 1) (h0 : 0 ≤ size) (h2 : 0 ≤ align) : Grow s0 (allocS C s size align).1.2 := by
  have hP := hC.ok.p2
  unfold allocS
  split
  · exact h
  · cases hm : madeS s size align with
    | some s' => exact h.made hs.ok h0 h2 hm
    | none =>
      dsimp only
      split
      · exact h
      · rename_i hok
        obtain ⟨n, big, ok, hch⟩ : ∃ n big ok, chunkI size align = (n, big, ok) := ⟨_, _, _, rfl⟩
        rw [hch] at hok ⊢
        have hok : ok = true := by simpa using hok
        subst hok
        obtain ⟨c1, c2, c3⟩ := chunk_n h0 h2 hch
        obtain ⟨g1, g2, g3, g4⟩ := get_inv (n := n) hC (fun x => by have := hd x; have := cS_nn x s; omega) c1 c2
        dsimp only
        unfold growS
        split
        · rename_i he
          obtain ⟨a1, _, _⟩ := g3 he
          split
          · exact h.big _
          · cases hm2 : madeS (partS s ((getC C n).2.1, n) (ofI (getC C n).2.1 n)) size align with
            | none => exact h.part
            | some s2 => exact h.part.made (part_inv hP hs a1 (ofI_bd _ _)).1.ok h0 h2 hm2
        · exact h
/-- Cursors stand behind their chunks' headers. -/
def CurOk (s : Sh) : Prop := ∀ p ∈ s.parts, (ofI p.1 p.2.1).1 ≤ p.2.2.1
theorem CurOk.made {s s' : Sh} {size align : Int} (h : CurOk s) (hs : ShOk s) (h0 : 0 ≤ size) (h2 : 0 ≤ align) (hm : madeS s size align = some s') : CurOk s' := by
  unfold madeS at hm
  cases hf : fitI (topAt s) (topEnd s) size align with
  | none => rw [hf] at hm; cases hm
  | some q =>
    rw [hf, Option.map_some, Option.some.injEq] at hm
    subst hm
    have hq := (fit_bd (top_bd hs).1 h2 h0 hf).1
    intro p hp
    have hp : p ∈ setLast s.parts q.2.1 := hp
    unfold setLast at hp
    rcases List.mem_or_eq_of_mem_set hp with hp | rfl
    · exact h p hp
    · have hne : s.parts ≠ [] := by rintro h0; rw [h0] at hp; simp at hp
      have h1 := h _ (last_mem hne)
      unfold topAt at hq
      dsimp only
      omega
theorem CurOk.alloc {C : Co} {B : Nat} {s : Sh} {size align : Int} (h : CurOk s) (hC : CInv C) (hs : SInv C.P B s) (hd : ∀ x, cC x C + cS x s ≤ 1) (h0 : 0 ≤ size) (h2 : 0 ≤ align) : CurOk (allocS C s size align).1.2 := by
  have hP := hC.ok.p2
  unfold allocS
  split
  · exact h
  · cases hm : madeS s size align with
    | some s' => exact h.made hs.ok h0 h2 hm
    | none =>
      dsimp only
      split
      · exact h
      · rename_i hok
        obtain ⟨n, big, ok, hch⟩ : ∃ n big ok, chunkI size align = (n, big, ok) := ⟨_, _, _, rfl⟩
        rw [hch] at hok ⊢
        have hok : ok = true := by simpa using hok
        subst hok
        obtain ⟨c1, c2, c3⟩ := chunk_n h0 h2 hch
        obtain ⟨g1, g2, g3, g4⟩ := get_inv (n := n) hC (fun x => by have := hd x; have := cS_nn x s; omega) c1 c2
        dsimp only
        unfold growS
        split
        · rename_i he
          obtain ⟨a1, _, _⟩ := g3 he
          have hpart : CurOk (partS s ((getC C n).2.1, n) (ofI (getC C n).2.1 n)) := by
            intro p hp
            rcases List.mem_append.1 hp with hp | hp
            · exact h p hp
            · simp at hp; subst hp; exact Int.le_refl _
          split
          · intro p hp
            have hpp : (bigS s ((getC C n).2.1, n) size (fitI (ofI (getC C n).2.1 n).1 (ofI (getC C n).2.1 n).2 size align)).parts = s.parts := by cases fitI (ofI (getC C n).2.1 n).1 (ofI (getC C n).2.1 n).2 size align <;> rfl
            rw [hpp] at hp
            exact h p hp
          · cases hm2 : madeS (partS s ((getC C n).2.1, n) (ofI (getC C n).2.1 n)) size align with
            | none => exact hpart
            | some s2 => exact hpart.made (part_inv hP hs a1 (ofI_bd _ _)).1.ok h0 h2 hm2
        · exact h
/-- Rewound up to its mark, it is as it was. -/
theorem rew_back {C : Co} {s0 s : Sh} (h : Grow s0 s) (hc : CurOk s0) : rewS C s s0.parts.length s0.larges.length (topAt s0) s0.obj s0.pad = some (putsC C s s0.parts.length s0.larges.length, s0) := by
  obtain ⟨⟨a, t, h1, h2⟩, ⟨t2, h3⟩⟩ := h
  have hlen : (setLast s0.parts a).length = s0.parts.length := setLast_length _ _
  have hfit : fitsS s s0.parts.length s0.larges.length (topAt s0) = true := by
    unfold fitsS
    rw [if_neg (by rw [h1, h3]; simp [hlen]; omega)]
    by_cases hn : s0.parts = []
    · rw [if_pos (by rw [hn]; rfl)]
      unfold topAt; rw [hn]; rfl
    · have hp : 0 < s0.parts.length := List.length_pos_iff.2 hn
      rw [if_neg (by omega)]
      have hg : s.parts.getD ((s0.parts.length : Int).toNat - 1) (0, 0, 0, 0) = ((lastP s0.parts).1, (lastP s0.parts).2.1, a, (lastP s0.parts).2.2.2) := by
        rw [← lastP_setLast s0.parts a hn]
        unfold lastP
        rw [h1, hlen, Int.toNat_natCast]
        simp only [List.getD, List.getElem?_append_left (show s0.parts.length - 1 < (setLast s0.parts a).length by omega)]
      rw [hg]
      have h4 := hc _ (last_mem hn)
      have h5 : topAt s0 = (lastP s0.parts).2.2.1 := rfl
      rw [Bool.and_eq_true, decide_eq_true_eq, decide_eq_true_eq]
      exact ⟨by rw [h5]; exact h4, h2⟩
  unfold rewS
  rw [if_pos hfit]
  congr 1
  congr 1
  have hcut : setTop (cutS s s0.parts.length s0.larges.length) (topAt s0) s0.obj s0.pad = s0 := by
    unfold setTop cutS
    simp only [Int.toNat_natCast]
    rw [h1, h3, List.take_left' hlen, List.take_left' rfl, setLast_setLast]
    have : setLast s0.parts (topAt s0) = s0.parts := setLast_self _
    rw [this]
  rw [hcut]
  split
  · rename_i hz
    simp only [List.cons.injEq] at hz
    obtain ⟨z1, z2, z3, z4, z5, _⟩ := hz
    have e1 : s0.parts = [] := List.length_eq_zero_iff.1 (by omega)
    have e2 : s0.larges = [] := List.length_eq_zero_iff.1 (by omega)
    obtain ⟨p, l, o, d⟩ := s0
    simp only at e1 e2 z4 z5
    subst e1 e2 z4 z5
    rfl
  · rfl
end Go.Proofs.YtamecmklcnohjaaGreat.Sep
namespace Go.Proofs.YtamecmklcnohjaaGreat.Sep
open Go.RowKit
set_option linter.unusedSimpArgs false
set_option linter.unusedVariables false
/-! regions, plain: grown, and rewound -/
theorem AR.grow {P : Int} {B : Nat} {o : Int} {C C' : Co} {m m' : Mm} {s0 s s' : Sh} {oth : List (Int × Hd)} {size align at_ e : Int} (hR : RInv P B o C m.f s oth) (ho : 0 ≤ o ∧ o < 18446744073709551616) (h0 : 0 ≤ size) (h2 : 0 ≤ align) (h3 : align ≤ 18446744073709551615) (h : AR P C m s o size align C' m' s' at_ e) (hg : Grow s0 s) : Grow s0 s' := by
  have hsh := h.shadow hR ho h0 h2 h3
  have hd : ∀ x, cC x C + cS x s ≤ 1 := fun x => by
    have a1 := hR.K.part x
    have a2 := part_le1 (x := x) (P := C.P)
    rw [gr_app, cnt_append, gotR_cnt] at a1
    have a3 := cnt_nn x (gr oth)
    omega
  have := hg.alloc (size := size) (align := align) hR.K.ci (by rw [hR.hP]; exact hR.S) hd h0 h2
  rw [hsh] at this
  exact this
theorem RInv.curOk {P : Int} {B : Nat} {o : Int} {C : Co} {m : Int → Int} {s : Sh} {oth : List (Int × Hd)} (h : RInv P B o C m s oth) : CurOk s := fun p hp => by
  have h1 := h.S.pi.parts _ (List.mem_map.2 ⟨p, hp, rfl⟩)
  have h2 := h.po p hp
  have h3 := ofI_run h.P1.2 h1
  have h4 : ofI p.1 p.2.1 = (p.1 * 4096 + 32, (p.1 + p.2.1) * 4096) := h3
  rw [h4]
  exact h2.2.1
/-- Rewound up to its mark a region is as it was. -/
theorem grow_fits {s0 s : Sh} (h : Grow s0 s) (hc : CurOk s0) : fitsS s s0.parts.length s0.larges.length (topAt s0) = true ∧ setTop (cutS s s0.parts.length s0.larges.length) (topAt s0) s0.obj s0.pad = s0 := by
  have h1 := rew_back (C := ⟨0, [], fun _ => [], 0⟩) h hc
  have h2 : fitsS s s0.parts.length s0.larges.length (topAt s0) = true := by
    by_cases hf : fitsS s s0.parts.length s0.larges.length (topAt s0) = true
    · exact hf
    · unfold rewS at h1
      rw [if_neg hf] at h1
      cases h1
  refine ⟨h2, ?_⟩
  rw [rew_shadow h2] at h1
  simp only [Option.some.injEq, Prod.mk.injEq, true_and] at h1
  exact h1
end Go.Proofs.YtamecmklcnohjaaGreat.Sep
namespace Go.Proofs.YtamecmklcnohjaaGreat.Sep
open Go.RowKit
set_option linter.unusedSimpArgs false
set_option linter.unusedVariables false
theorem SL_true {L : List HP} {H : PH} (h : SL L H) : SL (pur True :: L) H := ⟨fun _ => none, H, fun _ => .inl rfl, fun _ => by simp, trivial, h⟩
/-- A field of a struct that is at hand, of one cell. -/
theorem pv_fieldV {P : Program} {T ft fo bo f : Nat} {ty : TypeId} {e : Env} {x : Operand} {fl : List Field} {vs : List Value} {v : Value} {nm tag pkg : String} {emb : Bool} {dd : TypeDesc} [hu : TU P T (.struct fl.toArray)] (hfd : fl[f]? = some ⟨nm, ft, fo, emb, tag, pkg, bo⟩ := by rfl) (hft : TU P ft dd := by infer_instance) (hg : aggD dd = false := by rfl)
    (hx : ev e x = some (.agg vs.toArray) := by rfl) (hv : vs[fo]? = some v := by rfl) : PV P (.field T x f) ty e v := fun tm w pos aft h => by
  have h2 : (underlying T).run P w = .ok (.struct fl.toArray) w := run_und hu.out
  have h5 : fl.toArray[f]? = some ⟨nm, ft, fo, emb, tag, pkg, bo⟩ := by simpa using hfd
  have h6 : vs.toArray[fo]? = some v := by simpa using hv
  simp [execOp, Instr.field, ev_sound h hx, h2, h5, asAgg, part, run_isAgg hft.out, hg, hv]
section
variable {P : Program} {w0 : World} {e : Env} {L R : List HP} {ty : TypeId}
/-- Some cells of a variable are stored. -/
theorem dv_storeP {T s by' o : Nat} {x y : Operand} {b : Nat} {row row' vs : List Value} {T' : TypeId} {z : Value} [hi : TI P T z s by'] (hx : ev e x = some (.pointer (some ⟨b, o, none⟩)) := by rfl) (hy : ev e y = some (.agg vs.toArray) := by rfl)
    (hf : Find L (pt b (.cells row.toArray T' (0, 0))) R := by repeat (first | exact Find.here | apply Find.there)) (hl : vs.length = s := by rfl) (hr : (o + s ≤ row.length : Bool) = true := by rfl) (h1 : vs.all Value.oneCell' = true := by rfl) (hrow : row.take o ++ vs ++ row.drop (o + s) = row' := by rfl) :
    DV P w0 (.store T x y) ty e L (fun _ L' => L' = pt b (.cells row'.toArray T' (0, 0)) :: R) := dv_of_skip fun tm w pos aft h2 h3 => by
  have h3' := h3.find hf
  have hr' : o + s ≤ row.length := by simpa using hr
  have hrun := run_storeAt (P := P) (v := .agg vs.toArray) (o := o) hi (by simpa [Value.cells] using hl) (by simpa [Value.cells] using h1) h3'.block (by simpa using hr')
  have e1 : (row.toArray.toList.take o ++ (Value.agg vs.toArray).cells.toList ++ row.toArray.toList.drop (o + s)).toArray = row'.toArray := by
    simp [Value.cells, ← hrow]
  rw [e1] at hrun
  exact ⟨w.setRow b row'.toArray, _, by simp only [execOp, ev_sound h2 hx, ev_sound h2 hy, Sem.run_bind, hrun, Result.andThen_ok, Sem.run_pure], rfl, sat_setRow h3'⟩
end
/-- A cursor that lies somewhere: it can be read, and stored. -/
structure Cur (P : Program) (b o : Nat) (en : Int) (A : Int → HP) : Prop where
  load : ∀ {w0 : World} {ty : TypeId} {e : Env} {L R : List HP} {x : Operand} {a : Int}, Find L (A a) R → ev e x = some (.pointer (some ⟨b, o, none⟩)) → RV P w0 (.load 126 x) ty e L (.agg #[.int .u64 a, .int .u64 en])
  load1 : ∀ {w0 : World} {ty : TypeId} {e : Env} {L R : List HP} {x : Operand} {a : Int}, Find L (A a) R → ev e x = some (.pointer (some ⟨b, o, none⟩)) → RV P w0 (.load 32 x) ty e L (.int .u64 a)
  store : ∀ {w0 : World} {ty : TypeId} {e : Env} {L R : List HP} {x y : Operand} {a a' : Int}, Find L (A a) R → ev e x = some (.pointer (some ⟨b, o, none⟩)) → ev e y = some (.agg #[.int .u64 a', .int .u64 en]) → DV P w0 (.store 126 x y) ty e L (fun _ L' => L' = A a' :: R)
  store1 : ∀ {w0 : World} {ty : TypeId} {e : Env} {L R : List HP} {x y : Operand} {a a' : Int}, Find L (A a) R → ev e x = some (.pointer (some ⟨b, o, none⟩)) → ev e y = some (.int .u64 a') → DV P w0 (.store 32 x y) ty e L (fun _ L' => L' = A a' :: R)
theorem Cur.cell (b : Nat) (en : Int) : Cur Tryz.prog b 0 en (fun a => pt b (.cells [.int .u64 a, .int .u64 en].toArray 126 (0, 0))) where
  load := fun hf hx => rv_loadW (hx := hx) (hf := hf)
  load1 := fun hf hx => rv_load (hx := hx) (hf := hf)
  store := fun hf hx hy => dv_storeW (hx := hx) (hy := hy) (hf := hf)
  store1 := fun hf hx hy => dv_store (hx := hx) (hy := hy) (hf := hf)
end Go.Proofs.YtamecmklcnohjaaGreat.Sep
namespace Go.Proofs.YtamecmklcnohjaaGreat.Sep
open Go.RowKit
set_option linter.unusedSimpArgs false
set_option linter.unusedVariables false
/-! regions: their blocks -/
def eRP : E Part := ⟨3, true, fun p => [.int .u64 (ofI p.1 p.2.1).1, .int .u64 p.2.2.1, .int .u64 p.2.2.2], fun _ => rfl, fun _ _ h => by simp at h; rcases h with rfl | rfl | rfl <;> rfl, by decide, fun h => by cases h⟩
abbrev rgRow (s p0 p1 : Nat) (obj pad : Int) (a : Option Addr) (n c : Nat) : List Value := [.int .u64 obj, .int .u64 pad, .pointer (some ⟨s, 0, none⟩), .pointer (some ⟨p0, 0, none⟩), .pointer (some ⟨p1, 0, none⟩), .slice a n c]
/-- A region, but for its piles. -/
def Rs (r s p0 p1 : Nat) (S : Sh) : HP := fun H => ∃ x : Option Addr × Nat, SL [pt r (.cells (rgRow s p0 p1 S.obj S.pad x.1 S.parts.length x.2).toArray 115 (0, 0)), Sl eRP x.1 x.2 S.parts] H
theorem Rs.open {r s p0 p1 : Nat} {S : Sh} : ∀ H, Rs r s p0 p1 S H → ∃ x : Option Addr × Nat, True ∧ SL [pt r (.cells (rgRow s p0 p1 S.obj S.pad x.1 S.parts.length x.2).toArray 115 (0, 0)), Sl eRP x.1 x.2 S.parts] H := fun H ⟨x, h⟩ => ⟨x, trivial, h⟩
theorem Rs.fold {r s p0 p1 c : Nat} {S : Sh} {a : Option Addr} : ∀ H, SL [pt r (.cells (rgRow s p0 p1 S.obj S.pad a S.parts.length c).toArray 115 (0, 0)), Sl eRP a c S.parts] H → Rs r s p0 p1 S H := fun H h => ⟨(a, c), h⟩
theorem Rs.foldN {r s p0 p1 c n : Nat} {S : Sh} {a : Option Addr} (h : n = S.parts.length) : ∀ H, SL [pt r (.cells (rgRow s p0 p1 S.obj S.pad a n c).toArray 115 (0, 0)), Sl eRP a c S.parts] H → Rs r s p0 p1 S H := by subst h; exact Rs.fold
/-- A region. -/
def Rg (r s : Nat) (o : Int) (S : Sh) : HP := fun H => ∃ x : Nat × Nat, SL [Rs r s x.1 x.2 S, Pl x.1 s 0 o (S.parts.map runP), Pl x.2 s 1 o S.larges] H
theorem Rg.open {r s : Nat} {o : Int} {S : Sh} : ∀ H, Rg r s o S H → ∃ x : Nat × Nat, True ∧ SL [Rs r s x.1 x.2 S, Pl x.1 s 0 o (S.parts.map runP), Pl x.2 s 1 o S.larges] H := fun H ⟨x, h⟩ => ⟨x, trivial, h⟩
theorem Rg.fold {r s p0 p1 : Nat} {o : Int} {S : Sh} : ∀ H, SL [Rs r s p0 p1 S, Pl p0 s 0 o (S.parts.map runP), Pl p1 s 1 o S.larges] H → Rg r s o S H := fun H h => ⟨(p0, p1), h⟩
theorem Cur.rpart (b o c : Nat) (l : List Part) (hl : 0 < l.length) : Cur Tryz.prog b (o + (l.length - 1) * 3 + 1) (lastP l).2.2.2 (fun a => Sl eRP (some ⟨b, o, none⟩) c (setLast l a)) := by
  have hi : l.length - 1 < l.length := by omega
  have hg : ∀ a, (setLast l a)[l.length - 1]? = some ((lastP l).1, (lastP l).2.1, a, (lastP l).2.2.2) := fun a => by simp [setLast, hi]
  have hlen : ∀ a, l.length - 1 < (setLast l a).length := fun a => by rw [setLast_length]; exact hi
  have hgg : ∀ a (h : l.length - 1 < (setLast l a).length), (setLast l a)[l.length - 1] = ((lastP l).1, (lastP l).2.1, a, (lastP l).2.2.2) := fun a h => by simp [setLast]
  have hss : ∀ a a', (setLast l a).set (l.length - 1) ((lastP l).1, (lastP l).2.1, a', (lastP l).2.2.2) = setLast l a' := fun a a' => by simp [setLast]
  refine ⟨fun {_ _ _ _ _ _ a} hf hx => ?_, fun {_ _ _ _ _ _ a} hf hx => ?_, fun {w0 ty _ _ _ _ _ a a'} hf hx hy => ?_, fun {w0 ty _ _ _ _ _ a a'} hf hx hy => ?_⟩
  · exact rv_elS (E' := eRP) (i := l.length - 1) (f := 1) (xs := setLast l a) (vs := [.int .u64 a, .int .u64 (lastP l).2.2.2]) hf hx (hl := hlen a) (hv := by rw [hgg a]; rfl)
  · exact rv_elfG (E' := eRP) (l.length - 1) 1 _ (hf := hf) (hx := hx) (hget := hg a)
  · have := dv_putEl (w0 := w0) (ty := ty) (P := Tryz.prog) (T := 126) (E' := eRP) (i := l.length - 1) (s := 3) (f := 1) (xs := setLast l a) (vs := [.int .u64 a', .int .u64 (lastP l).2.2.2]) ((lastP l).1, (lastP l).2.1, a', (lastP l).2.2.2) hf hx hy rfl (fun u hu => by simp at hu; rcases hu with rfl | rfl <;> rfl) rfl rfl (hlen a) (by show 1 + 2 ≤ 3; omega) (by rw [hgg a]; rfl)
    rw [hss a a'] at this
    exact this
  · have := dv_putEl (w0 := w0) (ty := ty) (P := Tryz.prog) (T := 32) (E' := eRP) (i := l.length - 1) (s := 3) (f := 1) (xs := setLast l a) (vs := [.int .u64 a']) ((lastP l).1, (lastP l).2.1, a', (lastP l).2.2.2) hf hx hy rfl (fun u hu => by simp at hu; subst hu; rfl) rfl rfl (hlen a) (by show 1 + 1 ≤ 3; omega) (by rw [hgg a]; rfl)
    rw [hss a a'] at this
    exact this
set_option maxHeartbeats 8000000
attribute [local irreducible] X XE XO XD XDi XDa PV RV DV pt base Spec Sl Mp Keeps Pg Kc Pgs Spc Ck XL XLi Pl Rs Rg
/-- The region, of which the cursor on top is taken out. -/
def rtopV (r s p0 p1 : Nat) (S : Sh) (a : Option Addr) (c : Nat) : Value → List HP → Prop := fun v L => ∃ (cb o : Nat) (A : Int → HP) (G : HP), v = .pointer (some ⟨cb, o, none⟩) ∧ Cur Tryz.prog cb (o + 1) (topEnd S) A ∧
  (∀ at_ obj pad H, SL [pt r (.cells (rgRow s p0 p1 obj pad a S.parts.length c).toArray 115 (0, 0)), A at_, G] H → Rs r s p0 p1 (setTop S at_ obj pad) H) ∧
  L = [pt r (.cells (rgRow s p0 p1 S.obj S.pad a S.parts.length c).toArray 115 (0, 0)), A (topAt S), G]
theorem rtop_spec (r s p0 p1 : Nat) (S : Sh) (a : Option Addr) (c : Nat) (hl : S.parts.length ≤ 4611686018427387904) : Spec Tryz.prog 62 [.pointer (some ⟨r, 0, none⟩)] [pt r (.cells (rgRow s p0 p1 S.obj S.pad a S.parts.length c).toArray 115 (0, 0)), Sl eRP a c S.parts] (rtopV r s p0 p1 S a c) := by
  refine Spec.intro (IsEnt.out) Tryz.func62 rfl Tryz.ntmps62 (by simp) (fun w0 F => ?_)
  simp only [envOf, List.zipIdx, List.map, List.cons_append, List.nil_append, Nat.zero_add, Nat.reduceAdd]
  unfold rtopV
  repeat (first | refine Zq ?_ | refine Zs ?_ | refine ZT ?_ | refine ZF ?_ | refine Zc ?_ | refine XO_gU (hk := ?_))
  refine X_cond rfl (fun h => ?_) (fun h => ?_)
  · have h0 : S.parts = [] := by
      have : ((S.parts.length : Int) == 0) = true := h
      exact List.length_eq_zero_iff.1 (by simpa using this)
    repeat (first | refine Zq ?_ | refine Zs ?_ | refine ZT ?_ | refine ZF ?_ | refine Zc ?_ | refine XO_gU (hk := ?_))
    refine XO_dv dv_box (hk := ?_)
    rintro _ _ ⟨cb, rfl, rfl⟩
    repeat (first | refine Zq ?_ | refine Zs ?_ | refine ZT ?_ | refine ZF ?_ | refine Zc ?_ | refine XO_gU (hk := ?_))
    refine XE_ret (.inl rfl) (tells_tmps rfl rfl) ⟨_, ⟨cb, 0, fun x => pt cb (.cells [.int .u64 0, .int .u64 x, .int .u64 0].toArray 128 (0, 0)), Sl eRP a c S.parts, rfl, ?_, ?_, rfl⟩, ?_⟩
    · have he : topEnd S = 0 := by unfold topEnd; rw [h0]; rfl
      rw [he]
      exact { load := fun hf hx => rv_loadS (hx := hx) (hf := hf), load1 := fun hf hx => rv_load (hx := hx) (hf := hf), store := fun hf hx hy => dv_storeP (hx := hx) (hy := hy) (hf := hf), store1 := fun hf hx hy => dv_store (hx := hx) (hy := hy) (hf := hf) }
    · intro at_ obj pad H hs
      have hst : setTop S at_ obj pad = ⟨S.parts, S.larges, obj, pad⟩ := by unfold setTop; rw [h0]; rfl
      rw [hst]
      refine Rs.fold (S := ⟨S.parts, S.larges, obj, pad⟩) (a := a) (c := c) H ?_
      refine (show ∀ H, SL _ H → SL _ H from ?_) H hs
      ((try simp only [List.cons_append, List.nil_append]); repeat (first | exact ent_refl | refine ent_take (by repeat (first | exact Find.here | apply Find.there)) ?_ | refine ent_drop ?_))
    · have ht : topAt S = 0 := by unfold topAt; rw [h0]; rfl
      rw [ht]
      ((try simp only [List.cons_append, List.nil_append]); repeat (first | exact ent_refl | refine ent_take (by repeat (first | exact Find.here | apply Find.there)) ?_ | refine ent_drop ?_))
  · have h0 : 0 < S.parts.length := by
      have : ((S.parts.length : Int) == 0) = false := h
      have : ¬ (S.parts.length : Int) = 0 := by simpa using this
      omega
    refine X_slopen (E' := eRP) (a := a) (c := c) (xs := S.parts) (by (repeat (first | exact Find.here | apply Find.there))) h0 ?_
    rintro qb o rfl
    repeat (first | refine Zq ?_ | refine Zs ?_ | refine ZT ?_ | refine ZF ?_ | refine Zc ?_ | refine XO_gU (hk := ?_))
    repeat (first | refine XD_pick (h := ?_) | refine Dq ?_ | refine Ds ?_ | refine XDi_gF (h := ?_) | refine XDi_gU (h := ?_) | refine X_draws (h := ?_))
    (refine XD_one (h := ?_); refine XDa_dvA (dv_of_rv (rv_of_pv pv_assign)) (hk := ?_); rintro _ _ ⟨rfl, rfl⟩; refine ⟨by (repeat (first | exact keeps_nil | exact keeps_fnil | refine keeps_skip (h := ?_) | refine keeps_takeQ (h := ?_))), ?_⟩)
    (refine XD_end (h := ?_); repeat (first | refine Zq ?_ | refine Zs ?_ | refine ZT ?_ | refine ZF ?_ | refine Zc ?_ | refine XO_gU (hk := ?_)))
    have hto : ((S.parts.length : Int) - 1).toNat = S.parts.length - 1 := by omega
    have hself : setLast S.parts (topAt S) = S.parts := setLast_self _
    simp only [hto]
    refine XE_conv (fun _ => SL_true) ?_
    refine XE_ret (.inl rfl) (tells_tmps rfl rfl) ⟨_, ⟨qb, o + (S.parts.length - 1) * 3, fun x => Sl eRP (some ⟨qb, o, none⟩) c (setLast S.parts x), pur True, rfl, Cur.rpart qb o c S.parts h0, ?_, rfl⟩, ?_⟩
    · intro at_ obj pad H hs
      unfold setTop
      refine Rs.fold (S := ⟨setLast S.parts at_, S.larges, obj, pad⟩) (a := some ⟨qb, o, none⟩) (c := c) H ?_
      dsimp only
      rw [setLast_length]
      refine (show ∀ H, SL _ H → SL _ H from ?_) H hs
      ((try simp only [List.cons_append, List.nil_append]); repeat (first | exact ent_refl | refine ent_take (by repeat (first | exact Find.here | apply Find.there)) ?_ | refine ent_drop ?_))
    · dsimp only
      rw [hself]
      ((try simp only [List.cons_append, List.nil_append]); repeat (first | exact ent_refl | refine ent_take (by repeat (first | exact Find.here | apply Find.there)) ?_ | refine ent_drop ?_))
theorem rright_spec (size align : Int) (h0 : 0 ≤ size) (h2 : 0 ≤ align) (h3 : align ≤ 18446744073709551615) : Spec Tryz.prog 59 [.int .u64 size, .int .u64 align] [] (fun v L => v = .bool (decide (¬ badA size align)) ∧ L = []) := by
  refine Spec.intro (IsEnt.out) Tryz.func59 rfl Tryz.ntmps59 (by simp) (fun w0 F => ?_)
  simp only [envOf, List.zipIdx, List.map, List.cons_append, List.nil_append, Nat.zero_add, Nat.reduceAdd]
  have hB : decide (¬ badA size align) = (decide (0 < size) && (powB align && decide (align ≤ 4096))) := by
    rw [← need1_iff h2 h3]
    unfold badA
    by_cases hs : size = 0
    · simp [hs]
    · rw [decide_eq_true (show 0 < size by omega)]
      cases (needI 1 align).isSome <;> simp [hs]
  rw [hB]
  repeat (first | refine Zq ?_ | refine Zs ?_ | refine ZT ?_ | refine ZF ?_ | refine Zc ?_ | refine XO_gU (hk := ?_))
  refine XO_either (hT := fun h => ?_) (hF := fun h => ?_) <;> simp only [decide_eq_true_eq, decide_eq_false_iff_not] at h
  · repeat (first | refine Zq ?_ | refine Zs ?_ | refine ZT ?_ | refine ZF ?_ | refine Zc ?_ | refine XO_gU (hk := ?_))
    refine XO_call (pow_spec align h2 h3) (hk := ?_)
    rintro _ _ ⟨rfl, rfl⟩
    rw [decide_eq_true (show 0 < size by omega), Bool.true_and]
    cases hp : powB align with
    | true =>
      repeat (first | refine Zq ?_ | refine Zs ?_ | refine ZT ?_ | refine ZF ?_ | refine Zc ?_ | refine XO_gU (hk := ?_))
      refine XE_ret (.inl rfl) (tells_tmps rfl rfl) ⟨_, ⟨rfl, rfl⟩, by ((try simp only [List.cons_append, List.nil_append]); repeat (first | exact ent_refl | refine ent_take (by repeat (first | exact Find.here | apply Find.there)) ?_ | refine ent_drop ?_))⟩
    | false =>
      repeat (first | refine Zq ?_ | refine Zs ?_ | refine ZT ?_ | refine ZF ?_ | refine Zc ?_ | refine XO_gU (hk := ?_))
      refine XE_ret (.inl rfl) (tells_tmps rfl rfl) ⟨_, ⟨rfl, rfl⟩, by ((try simp only [List.cons_append, List.nil_append]); repeat (first | exact ent_refl | refine ent_take (by repeat (first | exact Find.here | apply Find.there)) ?_ | refine ent_drop ?_))⟩
  · rw [decide_eq_false (show ¬ 0 < size by omega), Bool.false_and]
    repeat (first | refine Zq ?_ | refine Zs ?_ | refine ZT ?_ | refine ZF ?_ | refine Zc ?_ | refine XO_gU (hk := ?_))
    refine XE_ret (.inl rfl) (tells_tmps rfl rfl) ⟨_, ⟨rfl, rfl⟩, by ((try simp only [List.cons_append, List.nil_append]); repeat (first | exact ent_refl | refine ent_take (by repeat (first | exact Find.here | apply Find.there)) ?_ | refine ent_drop ?_))⟩
theorem rmade_spec (r s p0 p1 cb o : Nat) (en : Int) (A : Int → HP) (hA : Cur Tryz.prog cb o en A) (a : Option Addr) (n c : Nat) (obj pad at_ size align : Int) {q : Int × Int × Int} (hf : fitI at_ en size align = some q) (g0 : 0 ≤ at_) (g1 : at_ ≤ 18446744073709551615) (g2 : 0 ≤ en) (g3 : en ≤ 18446744073709551615) (h0 : 0 ≤ size) (h1 : size ≤ 18446744073709551615) (h2 : 0 ≤ align) (h3 : align ≤ 18446744073709551615) :
    Spec Tryz.prog 61 [.pointer (some ⟨r, 0, none⟩), .pointer (some ⟨cb, o, none⟩), .int .u64 size, .int .u64 align] [pt r (.cells (rgRow s p0 p1 obj pad a n c).toArray 115 (0, 0)), A at_]
      (fun v L => v = .tuple #[.int .u64 q.1, .int .i64 0] ∧ L = [pt r (.cells (rgRow s p0 p1 (IntKind.u64.wrap (obj + size)) (IntKind.u64.wrap (pad + q.2.2)) a n c).toArray 115 (0, 0)), A q.2.1]) := by
  refine Spec.intro (IsEnt.out) Tryz.func61 rfl Tryz.ntmps61 (by simp) (fun w0 F => ?_)
  simp only [envOf, List.zipIdx, List.map, List.cons_append, List.nil_append, Nat.zero_add, Nat.reduceAdd]
  repeat (first | refine Zq ?_ | refine Zs ?_ | refine ZT ?_ | refine ZF ?_ | refine Zc ?_ | refine XO_gU (hk := ?_))
  refine XO_rv (hA.load (by (repeat (first | exact Find.here | apply Find.there))) rfl) (hk := ?_)
  repeat (first | refine Zq ?_ | refine Zs ?_ | refine ZT ?_ | refine ZF ?_ | refine Zc ?_ | refine XO_gU (hk := ?_))
  refine XO_call (fit_spec at_ en size align g0 g1 g2 g3 h0 h1 h2 h3) (hk := ?_)
  rintro _ _ ⟨rfl, rfl⟩
  obtain ⟨st, e2, p⟩ := q
  rw [hf]
  dsimp only
  repeat (first | refine Zq ?_ | refine Zs ?_ | refine ZT ?_ | refine ZF ?_ | refine Zc ?_ | refine XO_gU (hk := ?_))
  (refine XO_dv dv_alloc (hk := ?_); rintro _ _ ⟨cb, rfl, rfl⟩; (repeat (first | refine Zq ?_ | refine Zs ?_ | refine ZT ?_ | refine ZF ?_ | refine Zc ?_ | refine XO_gU (hk := ?_))); refine XO_dv0 dv_storeW (hk := ?_); rintro _ _ rfl; (repeat (first | refine Zq ?_ | refine Zs ?_ | refine ZT ?_ | refine ZF ?_ | refine Zc ?_ | refine XO_gU (hk := ?_))))
  refine XO_dv0 (hA.store (a' := e2) (by (repeat (first | exact Find.here | apply Find.there))) rfl rfl) (hk := ?_)
  rintro _ _ rfl
  repeat (first | refine Zq ?_ | refine Zs ?_ | refine ZT ?_ | refine ZF ?_ | refine Zc ?_ | refine XO_gU (hk := ?_))
  refine XO_dv0 dv_store (hk := ?_)
  rintro _ _ rfl
  repeat (first | refine Zq ?_ | refine Zs ?_ | refine ZT ?_ | refine ZF ?_ | refine Zc ?_ | refine XO_gU (hk := ?_))
  refine XO_dv0 dv_store (hk := ?_)
  rintro _ _ rfl
  repeat (first | refine Zq ?_ | refine Zs ?_ | refine ZT ?_ | refine ZF ?_ | refine Zc ?_ | refine XO_gU (hk := ?_))
  refine XE_ret (.inl rfl) (tells_tmps rfl rfl) ⟨_, ⟨rfl, rfl⟩, by ((try simp only [List.cons_append, List.nil_append]); repeat (first | exact ent_refl | refine ent_take (by repeat (first | exact Find.here | apply Find.there)) ?_ | refine ent_drop ?_))⟩
end Go.Proofs.YtamecmklcnohjaaGreat.Sep
namespace Go.Proofs.YtamecmklcnohjaaGreat.Sep
open Go.RowKit
set_option linter.unusedSimpArgs false
set_option linter.unusedVariables false
/-! regions: bytes are made -/
theorem Rg.foldT {r s p0 p1 : Nat} {o : Int} {S : Sh} {a b c : Int} : ∀ H, SL [Rs r s p0 p1 (setTop S a b c), Pl p0 s 0 o (S.parts.map runP), Pl p1 s 1 o S.larges] H → Rg r s o (setTop S a b c) H := fun H h => by
  have e : (setTop S a b c).parts.map runP = S.parts.map runP := setLast_runP _ _
  refine Rg.fold (p0 := p0) (p1 := p1) H ?_
  rw [e]
  exact h
instance teq_cur : TEq Tryz.prog 126 [.u64, .u64] := ⟨_, Tryz.underlying126, by kernel_rfl, by kernel_rfl, ⟨by decide, rfl, Tryz.underlying32, by decide, rfl, Tryz.underlying32, trivial⟩⟩
set_option maxHeartbeats 8000000
attribute [local irreducible] X XE XO XD XDi XDa PV RV DV pt base Spec Sl Mp Keeps Pg Kc Pgs Spc Ck XL XLi Pl Rs Rg
theorem bleft_spec (c0 c1 : Int) (h0 : 0 < c0) (h1 : c0 ≤ c1) (h2 : c1 ≤ 18446744073709551615) : Spec Tryz.prog 67 [.agg #[.int .u64 c0, .int .u64 c1]] [] (fun v L => v = .int .u64 (c1 - c0) ∧ L = []) := by
  refine Spec.intro (IsEnt.out) Tryz.func67 rfl Tryz.ntmps67 (by simp) (fun w0 F => ?_)
  simp only [envOf, List.zipIdx, List.map, List.cons_append, List.nil_append, Nat.zero_add, Nat.reduceAdd]
  repeat (first | refine Zq ?_ | refine Zs ?_ | refine ZT ?_ | refine ZF ?_ | refine Zc ?_ | refine XO_gU (hk := ?_))
  refine XO_dv dv_box (hk := ?_)
  rintro _ _ ⟨b, rfl, rfl⟩
  repeat (first | refine Zq ?_ | refine Zs ?_ | refine ZT ?_ | refine ZF ?_ | refine Zc ?_ | refine XO_gU (hk := ?_))
  refine XO_pv (pv_eqRec [c0, c1] [0, 0]) (hk := ?_)
  repeat (first | refine Zq ?_ | refine Zs ?_ | refine ZT ?_ | refine ZF ?_ | refine Zc ?_ | refine XO_gU (hk := ?_))
  refine XO_known false (hb := by simp; omega) (hk := ?_)
  repeat (first | refine Zq ?_ | refine Zs ?_ | refine ZT ?_ | refine ZF ?_ | refine Zc ?_ | refine XO_gU (hk := ?_))
  refine X_cond rfl (fun h => ?_) (fun _ => ?_)
  · exfalso
    simp only [decide_eq_true_eq] at h
    omega
  repeat (first | refine Zq ?_ | refine Zs ?_ | refine ZT ?_ | refine ZF ?_ | refine Zc ?_ | refine XO_gU (hk := ?_))
  refine XE_ret (.inl rfl) (tells_tmps rfl rfl) ⟨_, ⟨rfl, rfl⟩, by ((try simp only [List.cons_append, List.nil_append]); repeat (first | exact ent_refl | refine ent_take (by repeat (first | exact Find.here | apply Find.there)) ?_ | refine ent_drop ?_))⟩
theorem rfits_spec (r s : Nat) (o : Int) (S : Sh) (size align : Int) (hS : ShOk S) (hl : S.parts.length ≤ 1048576) (h0 : 0 ≤ size) (h1 : size ≤ 18446744073709551615) (h2 : 0 ≤ align) (h3 : align ≤ 18446744073709551615) :
    Spec Tryz.prog 60 [.pointer (some ⟨r, 0, none⟩), .int .u64 size, .int .u64 align] [Rg r s o S]
      (fun v L => v = .bool (decide (¬ badA size align) && (fitI (topAt S) (topEnd S) size align).isSome) ∧ L = [Rg r s o S]) := by
  refine Spec.intro (IsEnt.out) Tryz.func60 rfl Tryz.ntmps60 (by simp) (fun w0 F => ?_)
  simp only [envOf, List.zipIdx, List.map, List.cons_append, List.nil_append, Nat.zero_add, Nat.reduceAdd]
  have htb := top_bd hS
  repeat (first | refine Zq ?_ | refine Zs ?_ | refine ZT ?_ | refine ZF ?_ | refine Zc ?_ | refine XO_gU (hk := ?_))
  refine XO_call (rright_spec size align h0 h2 h3) (hk := ?_)
  rintro _ _ ⟨rfl, rfl⟩
  by_cases hb : badA size align
  · rw [decide_eq_false (fun hnb : ¬ badA size align => hnb hb)]
    repeat (first | refine Zq ?_ | refine Zs ?_ | refine ZT ?_ | refine ZF ?_ | refine Zc ?_ | refine XO_gU (hk := ?_))
    refine X_cond rfl (fun _ => ?_) (fun h => by cases h)
    repeat (first | refine Zq ?_ | refine Zs ?_ | refine ZT ?_ | refine ZF ?_ | refine Zc ?_ | refine XO_gU (hk := ?_))
    refine XE_ret (.inl rfl) (tells_tmps rfl rfl) ⟨_, ⟨rfl, rfl⟩, by ((try simp only [List.cons_append, List.nil_append]); repeat (first | exact ent_refl | refine ent_take (by repeat (first | exact Find.here | apply Find.there)) ?_ | refine ent_drop ?_))⟩
  rw [decide_eq_true hb]
  repeat (first | refine Zq ?_ | refine Zs ?_ | refine ZT ?_ | refine ZF ?_ | refine Zc ?_ | refine XO_gU (hk := ?_))
  refine X_cond rfl (fun h => by cases h) (fun _ => ?_)
  refine X_open .here Rg.open ?_
  rintro ⟨p0, p1⟩ -
  dsimp only [List.cons_append, List.nil_append]
  refine X_open (A := Rs r s p0 p1 S) (by (repeat (first | exact Find.here | apply Find.there))) Rs.open ?_
  rintro ⟨a, c⟩ -
  dsimp only [List.cons_append, List.nil_append]
  repeat (first | refine Zq ?_ | refine Zs ?_ | refine ZT ?_ | refine ZF ?_ | refine Zc ?_ | refine XO_gU (hk := ?_))
  refine XO_call (rtop_spec r s p0 p1 S a c (by omega)) (hk := ?_)
  rintro _ _ ⟨cb, oo, A, G, rfl, hCur, hfold, rfl⟩
  repeat (first | refine Zq ?_ | refine Zs ?_ | refine ZT ?_ | refine ZF ?_ | refine Zc ?_ | refine XO_gU (hk := ?_))
  refine XO_rv (hCur.load (by (repeat (first | exact Find.here | apply Find.there))) rfl) (hk := ?_)
  repeat (first | refine Zq ?_ | refine Zs ?_ | refine ZT ?_ | refine ZF ?_ | refine Zc ?_ | refine XO_gU (hk := ?_))
  refine XO_call (fit_spec (topAt S) (topEnd S) size align htb.1 htb.2.1 htb.2.2.1 htb.2.2.2 h0 h1 h2 h3) (hk := ?_)
  rintro _ _ ⟨rfl, rfl⟩
  refine XO_fold (by repeat (first | exact FindAll.nil | exact Find.here | apply Find.there | apply FindAll.cons)) (hfold (topAt S) S.obj S.pad) ?_
  rw [setTop_self]
  refine XO_fold (by repeat (first | exact FindAll.nil | exact Find.here | apply Find.there | apply FindAll.cons)) (Rg.fold (r := r) (s := s) (o := o) (S := S) (p0 := p0) (p1 := p1)) ?_
  cases hf : fitI (topAt S) (topEnd S) size align with
  | none =>
    repeat (first | refine Zq ?_ | refine Zs ?_ | refine ZT ?_ | refine ZF ?_ | refine Zc ?_ | refine XO_gU (hk := ?_))
    (refine XO_dv dv_alloc (hk := ?_); rintro _ _ ⟨cb, rfl, rfl⟩; (repeat (first | refine Zq ?_ | refine Zs ?_ | refine ZT ?_ | refine ZF ?_ | refine Zc ?_ | refine XO_gU (hk := ?_))); refine XO_dv0 dv_storeW (hk := ?_); rintro _ _ rfl; (repeat (first | refine Zq ?_ | refine Zs ?_ | refine ZT ?_ | refine ZF ?_ | refine Zc ?_ | refine XO_gU (hk := ?_))))
    refine XE_ret (.inl rfl) (tells_tmps rfl rfl) ⟨_, ⟨rfl, rfl⟩, by ((try simp only [List.cons_append, List.nil_append]); repeat (first | exact ent_refl | refine ent_take (by repeat (first | exact Find.here | apply Find.there)) ?_ | refine ent_drop ?_))⟩
  | some q =>
    obtain ⟨st, e2, p⟩ := q
    repeat (first | refine Zq ?_ | refine Zs ?_ | refine ZT ?_ | refine ZF ?_ | refine Zc ?_ | refine XO_gU (hk := ?_))
    (refine XO_dv dv_alloc (hk := ?_); rintro _ _ ⟨cb, rfl, rfl⟩; (repeat (first | refine Zq ?_ | refine Zs ?_ | refine ZT ?_ | refine ZF ?_ | refine Zc ?_ | refine XO_gU (hk := ?_))); refine XO_dv0 dv_storeW (hk := ?_); rintro _ _ rfl; (repeat (first | refine Zq ?_ | refine Zs ?_ | refine ZT ?_ | refine ZF ?_ | refine Zc ?_ | refine XO_gU (hk := ?_))))
    refine XE_ret (.inl rfl) (tells_tmps rfl rfl) ⟨_, ⟨rfl, rfl⟩, by ((try simp only [List.cons_append, List.nil_append]); repeat (first | exact ent_refl | refine ent_take (by repeat (first | exact Find.here | apply Find.there)) ?_ | refine ent_drop ?_))⟩
end Go.Proofs.YtamecmklcnohjaaGreat.Sep
namespace Go.Proofs.YtamecmklcnohjaaGreat.Sep
open Go.RowKit
set_option linter.unusedSimpArgs false
set_option linter.unusedVariables false
theorem Rs.fold2 {r s p0 p1 c n : Nat} {ob pd : Int} {S : Sh} {a : Option Addr} (h : n = S.parts.length) (h1 : ob = S.obj) (h2 : pd = S.pad) : ∀ H, SL [pt r (.cells (rgRow s p0 p1 ob pd a n c).toArray 115 (0, 0)), Sl eRP a c S.parts] H → Rs r s p0 p1 S H := by subst h h1 h2; exact Rs.fold
/-- A store, from which a region is cut out, for its kinds. -/
theorem RInv.k1 {P : Int} {B : Nat} {o : Int} {C : Co} {m : Int → Int} {s : Sh} {oth : List (Int × Hd)} (h : RInv P B o C m s oth) : KInv C m (plH 1 o 0 s.larges ++ (plH 0 o 0 (s.parts.map runP) ++ oth)) := by
  refine h.K.perm ?_
  unfold gotR
  exact ((List.perm_append_comm).append_right oth).trans (List.Perm.of_eq (List.append_assoc _ _ _))
theorem RInv.k0 {P : Int} {B : Nat} {o : Int} {C : Co} {m : Int → Int} {s : Sh} {oth : List (Int × Hd)} (h : RInv P B o C m s oth) : KInv C m (plH 0 o 0 (s.parts.map runP) ++ (plH 1 o 0 s.larges ++ oth)) := by
  have := h.K
  unfold gotR at this
  rwa [List.append_assoc] at this
set_option maxHeartbeats 8000000
attribute [local irreducible] X XE XO XD XDi XDa PV RV DV pt base Spec Sl Mp Keeps Pg Kc Pgs Spc Ck XL XLi Pl Rs Rg
theorem ralloc_spec (r s sb : Nat) {P : Int} {B : Nat} {o : Int} {C C' : Co} {m m' : Mm} {S S' : Sh} {oth : List (Int × Hd)} {size align at_ e : Int} (hR : RInv P B o C m.f S oth) (ho : 0 ≤ o ∧ o < 18446744073709551616) (h0 : 0 ≤ size) (h1 : size ≤ 18446744073709551615) (h2 : 0 ≤ align) (h3 : align ≤ 18446744073709551615) (h : AR P C m S o size align C' m' S' at_ e) :
    Spec Tryz.prog 18 [.pointer (some ⟨r, 0, none⟩), .int .u64 size, .int .u64 align] [Rg r s o S, Ck s sb C, Spc sb P m]
      (fun v L => v = .tuple #[.int .u64 at_, .int .i64 e] ∧ L = [Rg r s o S', Ck s sb C', Spc sb P m']) := by
  refine Spec.intro (IsEnt.out) Tryz.func18 rfl Tryz.ntmps18 (by simp) (fun w0 F => ?_)
  simp only [envOf, List.zipIdx, List.map, List.cons_append, List.nil_append, Nat.zero_add, Nat.reduceAdd]
  have hlen := hR.len
  have hPb := hR.P1
  have htb := top_bd hR.S.ok
  have sfit := rfits_spec r s o S size align hR.S.ok hlen.1 h0 h1 h2 h3
  repeat (first | refine Zq ?_ | refine Zs ?_ | refine ZT ?_ | refine ZF ?_ | refine Zc ?_ | refine XO_gU (hk := ?_))
  refine XO_call (rright_spec size align h0 h2 h3) (hk := ?_)
  rintro _ _ ⟨rfl, rfl⟩
  by_cases hb : badA size align
  · rw [decide_eq_false (fun hnb : ¬ badA size align => hnb hb)]
    cases h with
    | bad _ =>
      repeat (first | refine Zq ?_ | refine Zs ?_ | refine ZT ?_ | refine ZF ?_ | refine Zc ?_ | refine XO_gU (hk := ?_))
      refine X_cond rfl (fun _ => ?_) (fun h => by cases h)
      repeat (first | refine Zq ?_ | refine Zs ?_ | refine ZT ?_ | refine ZF ?_ | refine Zc ?_ | refine XO_gU (hk := ?_))
      refine XE_ret (.inl rfl) (tells_tmps rfl rfl) ⟨_, ⟨rfl, rfl⟩, by ((try simp only [List.cons_append, List.nil_append]); repeat (first | exact ent_refl | refine ent_take (by repeat (first | exact Find.here | apply Find.there)) ?_ | refine ent_drop ?_))⟩
    | fit q hb' _ => exact absurd hb hb'
    | huge hb' _ _ => exact absurd hb hb'
    | full n big hb' _ _ _ => exact absurd hb hb'
    | big n pg hb' _ _ _ => exact absurd hb hb'
    | part n pg hb' _ _ _ => exact absurd hb hb'
  obtain ⟨a1, a2, a3, a4, a5⟩ := good_al h2 h3 hb
  rw [decide_eq_true hb, Bool.true_and] at sfit
  rw [decide_eq_true hb]
  repeat (first | refine Zq ?_ | refine Zs ?_ | refine ZT ?_ | refine ZF ?_ | refine Zc ?_ | refine XO_gU (hk := ?_))
  refine X_cond rfl (fun h => by cases h) (fun _ => ?_)
  repeat (first | refine Zq ?_ | refine Zs ?_ | refine ZT ?_ | refine ZF ?_ | refine Zc ?_ | refine XO_gU (hk := ?_))
  refine XO_call sfit (hk := ?_)
  rintro _ _ ⟨rfl, rfl⟩
  cases hf : fitI (topAt S) (topEnd S) size align with
  | some q =>
    cases h with
    | bad hb' => exact absurd hb' hb
    | huge _ hf' _ => rw [hf'] at hf; cases hf
    | full n big _ hf' _ _ => rw [hf'] at hf; cases hf
    | big n pg _ hf' _ _ => rw [hf'] at hf; cases hf
    | part n pg _ hf' _ _ => rw [hf'] at hf; cases hf
    | fit q' _ hf' =>
      rw [hf'] at hf
      cases hf
      repeat (first | refine Zq ?_ | refine Zs ?_ | refine ZT ?_ | refine ZF ?_ | refine Zc ?_ | refine XO_gU (hk := ?_))
      refine X_cond rfl (fun _ => ?_) (fun h => by cases h)
      refine X_open .here Rg.open ?_
      rintro ⟨p0, p1⟩ -
      dsimp only [List.cons_append, List.nil_append]
      refine X_open (A := Rs r s p0 p1 S) (by (repeat (first | exact Find.here | apply Find.there))) Rs.open ?_
      rintro ⟨a, c⟩ -
      dsimp only [List.cons_append, List.nil_append]
      repeat (first | refine Zq ?_ | refine Zs ?_ | refine ZT ?_ | refine ZF ?_ | refine Zc ?_ | refine XO_gU (hk := ?_))
      refine XO_call (rtop_spec r s p0 p1 S a c (by omega)) (hk := ?_)
      rintro _ _ ⟨cb, oo, A, G, rfl, hCur, hfold, rfl⟩
      repeat (first | refine Zq ?_ | refine Zs ?_ | refine ZT ?_ | refine ZF ?_ | refine Zc ?_ | refine XO_gU (hk := ?_))
      refine XO_call (rmade_spec r s p0 p1 cb (oo + 1) (topEnd S) A hCur a S.parts.length c S.obj S.pad (topAt S) size align hf' htb.1 htb.2.1 htb.2.2.1 htb.2.2.2 h0 h1 h2 h3) (hk := ?_)
      rintro _ _ ⟨rfl, rfl⟩
      refine XO_fold (by repeat (first | exact FindAll.nil | exact Find.here | apply Find.there | apply FindAll.cons)) (hfold q.2.1 _ _) ?_
      refine XO_fold (by repeat (first | exact FindAll.nil | exact Find.here | apply Find.there | apply FindAll.cons)) (Rg.foldT (r := r) (s := s) (o := o) (S := S) (p0 := p0) (p1 := p1)) ?_
      repeat (first | refine Zq ?_ | refine Zs ?_ | refine ZT ?_ | refine ZF ?_ | refine Zc ?_ | refine XO_gU (hk := ?_))
      refine XE_ret (.inl rfl) (tells_tmps rfl rfl) ⟨_, ⟨rfl, rfl⟩, by ((try simp only [List.cons_append, List.nil_append]); repeat (first | exact ent_refl | refine ent_take (by repeat (first | exact Find.here | apply Find.there)) ?_ | refine ent_drop ?_))⟩
  | none =>
    repeat (first | refine Zq ?_ | refine Zs ?_ | refine ZT ?_ | refine ZF ?_ | refine Zc ?_ | refine XO_gU (hk := ?_))
    refine X_cond rfl (fun h => by cases h) (fun _ => ?_)
    repeat (first | refine Zq ?_ | refine Zs ?_ | refine ZT ?_ | refine ZF ?_ | refine Zc ?_ | refine XO_gU (hk := ?_))
    refine XO_call (chunk_spec size align h0 h1 h2 h3) (hk := ?_)
    rintro _ _ ⟨rfl, rfl⟩
    cases h with
    | bad hb' => exact absurd hb' hb
    | fit q' _ hf' => rw [hf'] at hf; cases hf
    | huge _ _ hc =>
      generalize chunkI size align = z at hc ⊢
      obtain ⟨n, big, ok⟩ := z
      obtain rfl : ok = false := hc
      repeat (first | refine Zq ?_ | refine Zs ?_ | refine ZT ?_ | refine ZF ?_ | refine Zc ?_ | refine XO_gU (hk := ?_))
      refine X_cond rfl (fun _ => ?_) (fun h => by cases h)
      repeat (first | refine Zq ?_ | refine Zs ?_ | refine ZT ?_ | refine ZF ?_ | refine Zc ?_ | refine XO_gU (hk := ?_))
      refine XE_ret (.inl rfl) (tells_tmps rfl rfl) ⟨_, ⟨rfl, rfl⟩, by ((try simp only [List.cons_append, List.nil_append]); repeat (first | exact ent_refl | refine ent_take (by repeat (first | exact Find.here | apply Find.there)) ?_ | refine ent_drop ?_))⟩
    | full n big _ _ hc hz =>
      obtain ⟨r1, r2, r3, r4, r5⟩ := rnd_chunk h0 h2 hc
      rw [hc]
      repeat (first | refine Zq ?_ | refine Zs ?_ | refine ZT ?_ | refine ZF ?_ | refine Zc ?_ | refine XO_gU (hk := ?_))
      refine X_cond rfl (fun h => by cases h) (fun _ => ?_)
      refine X_open .here Rg.open ?_
      rintro ⟨p0, p1⟩ -
      dsimp only [List.cons_append, List.nil_append]
      refine X_open (A := Rs r s p0 p1 S) (by (repeat (first | exact Find.here | apply Find.there))) Rs.open ?_
      rintro ⟨a, c⟩ -
      dsimp only [List.cons_append, List.nil_append]
      repeat (first | refine Zq ?_ | refine Zs ?_ | refine ZT ?_ | refine ZF ?_ | refine Zc ?_ | refine XO_gU (hk := ?_))
      cases big with
      | false =>
        refine X_cond rfl (fun h => by cases h) (fun _ => ?_)
        repeat (first | refine Zq ?_ | refine Zs ?_ | refine ZT ?_ | refine ZF ?_ | refine Zc ?_ | refine XO_gU (hk := ?_))
        have sp := ppush_err p0 s sb (n := n) (rs := S.parts.map runP) (by decide) (kget_no s sb (m := m) (k := 0) (o := o) hR.K.ci.ok hR.hP r2 (by rw [r1]; exact hz))
        refine XO_call sp (hk := ?_)
        rintro _ _ ⟨rfl, rfl⟩
        repeat (first | refine Zq ?_ | refine Zs ?_ | refine ZT ?_ | refine ZF ?_ | refine Zc ?_ | refine XO_gU (hk := ?_))
        refine X_cond rfl (fun _ => ?_) (fun h => by cases h)
        repeat (first | refine Zq ?_ | refine Zs ?_ | refine ZT ?_ | refine ZF ?_ | refine Zc ?_ | refine XO_gU (hk := ?_))
        refine XE_fold (by repeat (first | exact FindAll.nil | exact Find.here | apply Find.there | apply FindAll.cons)) (Rs.fold (S := S)) ?_
        refine XE_fold (by repeat (first | exact FindAll.nil | exact Find.here | apply Find.there | apply FindAll.cons)) (Rg.fold (S := S)) ?_
        refine XE_ret (.inl rfl) (tells_tmps rfl rfl) ⟨_, ⟨rfl, rfl⟩, by ((try simp only [List.cons_append, List.nil_append]); repeat (first | exact ent_refl | refine ent_take (by repeat (first | exact Find.here | apply Find.there)) ?_ | refine ent_drop ?_))⟩
      | true =>
        refine X_cond rfl (fun _ => ?_) (fun h => by cases h)
        repeat (first | refine Zq ?_ | refine Zs ?_ | refine ZT ?_ | refine ZF ?_ | refine Zc ?_ | refine XO_gU (hk := ?_))
        have sp := ppush_err p1 s sb (n := n) (rs := S.larges) (by decide) (kget_no s sb (m := m) (k := 1) (o := o) hR.K.ci.ok hR.hP r3 (by rw [r1]; exact hz))
        refine XO_call sp (hk := ?_)
        rintro _ _ ⟨rfl, rfl⟩
        repeat (first | refine Zq ?_ | refine Zs ?_ | refine ZT ?_ | refine ZF ?_ | refine Zc ?_ | refine XO_gU (hk := ?_))
        refine X_cond rfl (fun _ => ?_) (fun h => by cases h)
        repeat (first | refine Zq ?_ | refine Zs ?_ | refine ZT ?_ | refine ZF ?_ | refine Zc ?_ | refine XO_gU (hk := ?_))
        refine XE_fold (by repeat (first | exact FindAll.nil | exact Find.here | apply Find.there | apply FindAll.cons)) (Rs.fold (S := S)) ?_
        refine XE_fold (by repeat (first | exact FindAll.nil | exact Find.here | apply Find.there | apply FindAll.cons)) (Rg.fold (S := S)) ?_
        refine XE_ret (.inl rfl) (tells_tmps rfl rfl) ⟨_, ⟨rfl, rfl⟩, by ((try simp only [List.cons_append, List.nil_append]); repeat (first | exact ent_refl | refine ent_take (by repeat (first | exact Find.here | apply Find.there)) ?_ | refine ent_drop ?_))⟩
    | big n pg _ _ hc hz =>
      obtain ⟨r1, r2, r3, r4, r5⟩ := rnd_chunk h0 h2 hc
      have hz0 : (getC C (rnd n)).2.2 = 0 := by rw [r1, hz]
      have sp := fun p1 => ppush_ok p1 s sb hR.k1 hR.hP ho r3 hz0 hlen.2
      have hr : RunOk P (pg, n) := by
        have := get_hr hR.K n 1 o ho r3 hz0
        rw [r1, hz, hR.hP] at this
        exact this
      obtain ⟨cf, -, -, -⟩ := chunk_fit h0 h2 h3 hb hc hPb.2 hr
      have hoe := ofI_run hPb.2 hr
      rw [r1, hz] at sp
      simp only at sp
      rw [hoe] at cf
      simp only at cf
      unfold RunOk at hr
      simp only at hr
      rw [hc]
      repeat (first | refine Zq ?_ | refine Zs ?_ | refine ZT ?_ | refine ZF ?_ | refine Zc ?_ | refine XO_gU (hk := ?_))
      refine X_cond rfl (fun h => by cases h) (fun _ => ?_)
      refine X_open .here Rg.open ?_
      rintro ⟨p0, p1⟩ -
      dsimp only [List.cons_append, List.nil_append]
      refine X_open (A := Rs r s p0 p1 S) (by (repeat (first | exact Find.here | apply Find.there))) Rs.open ?_
      rintro ⟨a, c⟩ -
      dsimp only [List.cons_append, List.nil_append]
      repeat (first | refine Zq ?_ | refine Zs ?_ | refine ZT ?_ | refine ZF ?_ | refine Zc ?_ | refine XO_gU (hk := ?_))
      refine X_cond rfl (fun _ => ?_) (fun h => by cases h)
      repeat (first | refine Zq ?_ | refine Zs ?_ | refine ZT ?_ | refine ZF ?_ | refine Zc ?_ | refine XO_gU (hk := ?_))
      refine XO_call (sp p1) (hk := ?_)
      rintro _ _ ⟨rfl, rfl⟩
      generalize pushM P m 1 o (lastL 0 S.larges) pg n = m1
      generalize (getC C n).1 = C1
      repeat (first | refine Zq ?_ | refine Zs ?_ | refine ZT ?_ | refine ZF ?_ | refine Zc ?_ | refine XO_gU (hk := ?_))
      refine X_cond rfl (fun h => by cases h) (fun _ => ?_)
      repeat (first | refine Zq ?_ | refine Zs ?_ | refine ZT ?_ | refine ZF ?_ | refine Zc ?_ | refine XO_gU (hk := ?_))
      refine XO_call (bof_spec pg n) (hk := ?_)
      rintro _ _ ⟨rfl, rfl⟩
      rw [hoe]
      repeat (first | refine Zq ?_ | refine Zs ?_ | refine ZT ?_ | refine ZF ?_ | refine Zc ?_ | refine XO_gU (hk := ?_))
      refine XO_dv dv_alloc (hk := ?_)
      rintro _ _ ⟨cb, rfl, rfl⟩
      repeat (first | refine Zq ?_ | refine Zs ?_ | refine ZT ?_ | refine ZF ?_ | refine Zc ?_ | refine XO_gU (hk := ?_))
      refine XO_dv0 dv_storeW (hk := ?_)
      rintro _ _ rfl
      repeat (first | refine Zq ?_ | refine Zs ?_ | refine ZT ?_ | refine ZF ?_ | refine Zc ?_ | refine XO_gU (hk := ?_))
      repeat (first | refine XD_pick (h := ?_) | refine Dq ?_ | refine Ds ?_ | refine XDi_gF (h := ?_) | refine XDi_gU (h := ?_) | refine X_draws (h := ?_))
      refine XD_one (h := ?_)
      refine XDa_dvA (dv_call (kspace_spec s sb C1)) (hk := ?_)
      (rintro _ _ ⟨_, ⟨rfl, rfl⟩, rfl⟩; refine ⟨by (repeat (first | exact keeps_nil | exact keeps_fnil | refine keeps_skip (h := ?_) | refine keeps_takeQ (h := ?_))), ?_⟩)
      repeat (first | refine XD_pick (h := ?_) | refine Dq ?_ | refine Ds ?_ | refine XDi_gF (h := ?_) | refine XDi_gU (h := ?_) | refine X_draws (h := ?_))
      refine XD_one (h := ?_)
      refine XDa_dvA (dv_call (bleft_spec (pg * 4096 + 32) ((pg + n) * 4096) (by omega) (by omega) (by omega))) (hk := ?_)
      (rintro _ _ ⟨_, ⟨rfl, rfl⟩, rfl⟩; refine ⟨by (repeat (first | exact keeps_nil | exact keeps_fnil | refine keeps_skip (h := ?_) | refine keeps_takeQ (h := ?_))), ?_⟩)
      repeat (first | refine XD_pick (h := ?_) | refine Dq ?_ | refine Ds ?_ | refine XDi_gF (h := ?_) | refine XDi_gU (h := ?_) | refine X_draws (h := ?_))
      have hs := Zero_spec sb P m1 (pg * 4096 + 32) ((pg + n) * 4096 - (pg * 4096 + 32)) (by omega) hPb.2 (by omega) (by omega) (by omega) (by omega)
      unfold zeroV at hs
      rw [if_pos (by omega)] at hs
      refine XD_one (h := ?_)
      refine XDa_dvA (dv_call hs) (hk := ?_)
      (rintro _ _ ⟨_, ⟨rfl, rfl⟩, rfl⟩; refine ⟨by (repeat (first | exact keeps_nil | exact keeps_fnil | refine keeps_skip (h := ?_) | refine keeps_takeQ (h := ?_))), ?_⟩)
      rw [show (pg + n) * 4096 - (pg * 4096 + 32) = n * 4096 - 32 from by omega]
      (refine XD_end (h := ?_); repeat (first | refine Zq ?_ | refine Zs ?_ | refine ZT ?_ | refine ZF ?_ | refine Zc ?_ | refine XO_gU (hk := ?_)))
      refine X_cond rfl (fun _ => ?_) (fun h => by cases h)
      repeat (first | refine Zq ?_ | refine Zs ?_ | refine ZT ?_ | refine ZF ?_ | refine Zc ?_ | refine XO_gU (hk := ?_))
      refine XO_call (rmade_spec r s p0 p1 cb 0 ((pg + n) * 4096) (fun x => pt cb (.cells [.int .u64 x, .int .u64 ((pg + n) * 4096)].toArray 126 (0, 0))) (Cur.cell cb _) a S.parts.length c S.obj S.pad (pg * 4096 + 32) size align cf (by omega) (by omega) (by omega) (by omega) h0 h1 h2 h3) (hk := ?_)
      rintro _ _ ⟨rfl, rfl⟩
      repeat (first | refine Zq ?_ | refine Zs ?_ | refine ZT ?_ | refine ZF ?_ | refine Zc ?_ | refine XO_gU (hk := ?_))
      refine XE_fold (by repeat (first | exact FindAll.nil | exact Find.here | apply Find.there | apply FindAll.cons)) (Rs.fold2 (S := ⟨S.parts, S.larges ++ [(pg, n)], IntKind.u64.wrap (S.obj + size), IntKind.u64.wrap (S.pad + (-32) % align)⟩) (n := S.parts.length) rfl rfl rfl) ?_
      refine XE_fold (by repeat (first | exact FindAll.nil | exact Find.here | apply Find.there | apply FindAll.cons)) (Rg.fold (S := ⟨S.parts, S.larges ++ [(pg, n)], IntKind.u64.wrap (S.obj + size), IntKind.u64.wrap (S.pad + (-32) % align)⟩) (p0 := p0) (p1 := p1)) ?_
      refine XE_ret (.inl rfl) (tells_tmps rfl rfl) ⟨_, ⟨rfl, rfl⟩, by ((try simp only [List.cons_append, List.nil_append]); repeat (first | exact ent_refl | refine ent_take (by repeat (first | exact Find.here | apply Find.there)) ?_ | refine ent_drop ?_))⟩
    | part n pg _ _ hc hz =>
      obtain ⟨r1, r2, r3, r4, r5⟩ := rnd_chunk h0 h2 hc
      have hz0 : (getC C (rnd n)).2.2 = 0 := by rw [r1, hz]
      have sp := fun p0 => ppush_ok p0 s sb hR.k0 hR.hP ho r2 hz0 (by simp; exact hlen.1)
      have hr : RunOk P (pg, n) := by
        have := get_hr hR.K n 0 o ho r2 hz0
        rw [r1, hz, hR.hP] at this
        exact this
      obtain ⟨cf, -, -, -⟩ := chunk_fit h0 h2 h3 hb hc hPb.2 hr
      have hoe := ofI_run hPb.2 hr
      rw [r1, hz] at sp
      simp only at sp
      rw [hoe] at cf
      simp only at cf
      have hr' := hr
      unfold RunOk at hr
      simp only at hr
      rw [hc]
      repeat (first | refine Zq ?_ | refine Zs ?_ | refine ZT ?_ | refine ZF ?_ | refine Zc ?_ | refine XO_gU (hk := ?_))
      refine X_cond rfl (fun h => by cases h) (fun _ => ?_)
      refine X_open .here Rg.open ?_
      rintro ⟨p0, p1⟩ -
      dsimp only [List.cons_append, List.nil_append]
      refine X_open (A := Rs r s p0 p1 S) (by (repeat (first | exact Find.here | apply Find.there))) Rs.open ?_
      rintro ⟨a, c⟩ -
      dsimp only [List.cons_append, List.nil_append]
      repeat (first | refine Zq ?_ | refine Zs ?_ | refine ZT ?_ | refine ZF ?_ | refine Zc ?_ | refine XO_gU (hk := ?_))
      refine X_cond rfl (fun h => by cases h) (fun _ => ?_)
      repeat (first | refine Zq ?_ | refine Zs ?_ | refine ZT ?_ | refine ZF ?_ | refine Zc ?_ | refine XO_gU (hk := ?_))
      refine XO_call (sp p0) (hk := ?_)
      rintro _ _ ⟨rfl, rfl⟩
      generalize pushM P m 0 o (lastL 0 (S.parts.map runP)) pg n = m1
      generalize (getC C n).1 = C1
      repeat (first | refine Zq ?_ | refine Zs ?_ | refine ZT ?_ | refine ZF ?_ | refine Zc ?_ | refine XO_gU (hk := ?_))
      refine X_cond rfl (fun h => by cases h) (fun _ => ?_)
      repeat (first | refine Zq ?_ | refine Zs ?_ | refine ZT ?_ | refine ZF ?_ | refine Zc ?_ | refine XO_gU (hk := ?_))
      refine XO_call (bof_spec pg n) (hk := ?_)
      rintro _ _ ⟨rfl, rfl⟩
      rw [hoe]
      repeat (first | refine Zq ?_ | refine Zs ?_ | refine ZT ?_ | refine ZF ?_ | refine Zc ?_ | refine XO_gU (hk := ?_))
      refine XO_dv dv_alloc (hk := ?_)
      rintro _ _ ⟨cb, rfl, rfl⟩
      repeat (first | refine Zq ?_ | refine Zs ?_ | refine ZT ?_ | refine ZF ?_ | refine Zc ?_ | refine XO_gU (hk := ?_))
      refine XO_dv0 dv_storeW (hk := ?_)
      rintro _ _ rfl
      repeat (first | refine Zq ?_ | refine Zs ?_ | refine ZT ?_ | refine ZF ?_ | refine Zc ?_ | refine XO_gU (hk := ?_))
      repeat (first | refine XD_pick (h := ?_) | refine Dq ?_ | refine Ds ?_ | refine XDi_gF (h := ?_) | refine XDi_gU (h := ?_) | refine X_draws (h := ?_))
      refine XD_one (h := ?_)
      refine XDa_dvA (dv_call (kspace_spec s sb C1)) (hk := ?_)
      (rintro _ _ ⟨_, ⟨rfl, rfl⟩, rfl⟩; refine ⟨by (repeat (first | exact keeps_nil | exact keeps_fnil | refine keeps_skip (h := ?_) | refine keeps_takeQ (h := ?_))), ?_⟩)
      repeat (first | refine XD_pick (h := ?_) | refine Dq ?_ | refine Ds ?_ | refine XDi_gF (h := ?_) | refine XDi_gU (h := ?_) | refine X_draws (h := ?_))
      refine XD_one (h := ?_)
      refine XDa_dvA (dv_call (bleft_spec (pg * 4096 + 32) ((pg + n) * 4096) (by omega) (by omega) (by omega))) (hk := ?_)
      (rintro _ _ ⟨_, ⟨rfl, rfl⟩, rfl⟩; refine ⟨by (repeat (first | exact keeps_nil | exact keeps_fnil | refine keeps_skip (h := ?_) | refine keeps_takeQ (h := ?_))), ?_⟩)
      repeat (first | refine XD_pick (h := ?_) | refine Dq ?_ | refine Ds ?_ | refine XDi_gF (h := ?_) | refine XDi_gU (h := ?_) | refine X_draws (h := ?_))
      have hs := Zero_spec sb P m1 (pg * 4096 + 32) ((pg + n) * 4096 - (pg * 4096 + 32)) (by omega) hPb.2 (by omega) (by omega) (by omega) (by omega)
      unfold zeroV at hs
      rw [if_pos (by omega)] at hs
      refine XD_one (h := ?_)
      refine XDa_dvA (dv_call hs) (hk := ?_)
      (rintro _ _ ⟨_, ⟨rfl, rfl⟩, rfl⟩; refine ⟨by (repeat (first | exact keeps_nil | exact keeps_fnil | refine keeps_skip (h := ?_) | refine keeps_takeQ (h := ?_))), ?_⟩)
      rw [show (pg + n) * 4096 - (pg * 4096 + 32) = n * 4096 - 32 from by omega]
      (refine XD_end (h := ?_); repeat (first | refine Zq ?_ | refine Zs ?_ | refine ZT ?_ | refine ZF ?_ | refine Zc ?_ | refine XO_gU (hk := ?_)))
      refine X_cond rfl (fun h => by cases h) (fun _ => ?_)
      repeat (first | refine Zq ?_ | refine Zs ?_ | refine ZT ?_ | refine ZF ?_ | refine Zc ?_ | refine XO_gU (hk := ?_))
      repeat (first | refine XD_pick (h := ?_) | refine Dq ?_ | refine Ds ?_ | refine XDi_gF (h := ?_) | refine XDi_gU (h := ?_) | refine X_draws (h := ?_))
      refine XDi_pvA (pv_buildG [.int .u64 (pg * 4096 + 32), .int .u64 (pg * 4096 + 32), .int .u64 ((pg + n) * 4096)]) (h := ?_)
      repeat (first | refine XD_pick (h := ?_) | refine Dq ?_ | refine Ds ?_ | refine XDi_gF (h := ?_) | refine XDi_gU (h := ?_) | refine X_draws (h := ?_))
      have hcells : eRP.cells (pg, n, pg * 4096 + 32, (pg + n) * 4096) = [.int .u64 (pg * 4096 + 32), .int .u64 (pg * 4096 + 32), .int .u64 ((pg + n) * 4096)] := by
        show [Value.int .u64 (ofI pg n).1, _, _] = _
        rw [hoe]
      refine XD_one (h := ?_)
      refine XDa_dvA (dv_lit (E' := eRP) [(pg, n, pg * 4096 + 32, (pg + n) * 4096)] (hx := by show _ = [Value.agg #[.int .u64 (ofI pg n).1, _, _]]; rw [hoe])) (hk := ?_)
      rintro _ _ ⟨lb, rfl, rfl⟩
      refine ⟨by (repeat (first | exact keeps_nil | exact keeps_fnil | refine keeps_skip (h := ?_) | refine keeps_takeQ (h := ?_))), ?_⟩
      repeat (first | refine XD_pick (h := ?_) | refine Dq ?_ | refine Ds ?_ | refine XDi_gF (h := ?_) | refine XDi_gU (h := ?_) | refine X_draws (h := ?_))
      refine XD_one (h := ?_)
      refine XDa_dvA (dv_append (E' := eRP) (xs := S.parts) (ys := [(pg, n, pg * 4096 + 32, (pg + n) * 4096)]) (A := Sl eRP (some ⟨lb, 0, none⟩) 1 [(pg, n, pg * 4096 + 32, (pg + n) * 4096)]) (a := a) (a2 := some ⟨lb, 0, none⟩) (c := c) (c2 := 1) (hv := Sl.view) (hb := by simp; omega)) (hk := ?_)
      rintro _ _ ⟨a3, c3, rfl, rfl⟩
      refine ⟨by (repeat (first | exact keeps_nil | exact keeps_fnil | refine keeps_skip (h := ?_) | refine keeps_takeQ (h := ?_))), ?_⟩
      repeat (first | refine XD_pick (h := ?_) | refine Dq ?_ | refine Ds ?_ | refine XDi_gF (h := ?_) | refine XDi_gU (h := ?_) | refine X_draws (h := ?_))
      refine XD_one (h := ?_)
      refine XDa_dvk0 dv_store (K := _) (hk := ?_)
      (rintro _ _ rfl; refine ⟨by (repeat (first | exact keeps_nil | exact keeps_fnil | refine keeps_skip (h := ?_) | refine keeps_takeQ (h := ?_))), ?_⟩)
      (refine XD_end (h := ?_); repeat (first | refine Zq ?_ | refine Zs ?_ | refine ZT ?_ | refine ZF ?_ | refine Zc ?_ | refine XO_gU (hk := ?_)))
      have htA : topAt ⟨S.parts ++ [(pg, n, pg * 4096 + 32, (pg + n) * 4096)], S.larges, S.obj, S.pad⟩ = pg * 4096 + 32 := by unfold topAt; simp only; rw [lastP_append]
      have htE : topEnd ⟨S.parts ++ [(pg, n, pg * 4096 + 32, (pg + n) * 4096)], S.larges, S.obj, S.pad⟩ = (pg + n) * 4096 := by unfold topEnd; simp only; rw [lastP_append]
      have hst : ∀ x y z, setTop ⟨S.parts ++ [(pg, n, pg * 4096 + 32, (pg + n) * 4096)], S.larges, S.obj, S.pad⟩ x y z = ⟨S.parts ++ [(pg, n, x, (pg + n) * 4096)], S.larges, y, z⟩ := fun x y z => by unfold setTop; simp only; rw [setLast_app]
      have hmp : ∀ x : Int, (S.parts ++ [(pg, n, x, (pg + n) * 4096)]).map runP = S.parts.map runP ++ [(pg, n)] := fun x => by simp [runP]
      have hsl : (⟨S.parts ++ [(pg, n, pg * 4096 + 32, (pg + n) * 4096)], S.larges, S.obj, S.pad⟩ : Sh).parts.length ≤ 4611686018427387904 := by simp; omega
      refine XO_call (rtop_spec r s p0 p1 ⟨S.parts ++ [(pg, n, pg * 4096 + 32, (pg + n) * 4096)], S.larges, S.obj, S.pad⟩ a3 c3 hsl) (hk := ?_)
      rintro _ _ ⟨cb2, o2, A2, G2, rfl, hCur2, hfold2, rfl⟩
      rw [htA]
      rw [htE] at hCur2
      repeat (first | refine Zq ?_ | refine Zs ?_ | refine ZT ?_ | refine ZF ?_ | refine Zc ?_ | refine XO_gU (hk := ?_))
      refine XO_call (rmade_spec r s p0 p1 cb2 (o2 + 1) ((pg + n) * 4096) A2 hCur2 a3 _ c3 S.obj S.pad (pg * 4096 + 32) size align cf (by omega) (by omega) (by omega) (by omega) h0 h1 h2 h3) (hk := ?_)
      rintro _ _ ⟨rfl, rfl⟩
      refine XO_fold (by repeat (first | exact FindAll.nil | exact Find.here | apply Find.there | apply FindAll.cons)) (hfold2 (pg * 4096 + 32 + (-32) % align + size) _ _) ?_
      rw [hst]
      rw [← hmp (pg * 4096 + 32 + (-32) % align + size)]
      refine XO_fold (by repeat (first | exact FindAll.nil | exact Find.here | apply Find.there | apply FindAll.cons)) (Rg.fold (r := r) (s := s) (o := o) (S := ⟨S.parts ++ [(pg, n, pg * 4096 + 32 + (-32) % align + size, (pg + n) * 4096)], S.larges, IntKind.u64.wrap (S.obj + size), IntKind.u64.wrap (S.pad + (-32) % align)⟩) (p0 := p0) (p1 := p1)) ?_
      repeat (first | refine Zq ?_ | refine Zs ?_ | refine ZT ?_ | refine ZF ?_ | refine Zc ?_ | refine XO_gU (hk := ?_))
      refine XE_ret (.inl rfl) (tells_tmps rfl rfl) ⟨_, ⟨rfl, rfl⟩, by ((try simp only [List.cons_append, List.nil_append]); repeat (first | exact ent_refl | refine ent_take (by repeat (first | exact Find.here | apply Find.there)) ?_ | refine ent_drop ?_))⟩
end Go.Proofs.YtamecmklcnohjaaGreat.Sep
