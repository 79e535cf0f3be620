import Derived.Test.YtamecmklcnohjaaGreatBn4
import Derived.Laws.IdiomStrings
import Derived.Test.YtamecmklcnohjaaGreatBn3
import Derived.Test.YtamecmklcnohjaaGreatBn2
/- What the laws share: a separation logic over the model, and what the program's functions do, by it. Part 5 of 15: SepY Word SepZ Mem WalkW SepW SpaceA SpaceB SpaceC SpaceD SpaceE Head HeadB. -/
namespace Go.Proofs.YtamecmklcnohjaaGreat.Sep
open Go.RowKit
set_option linter.unusedSimpArgs false
set_option linter.unusedVariables false
set_option linter.unusedSectionVars false
section
variable {P : Program} {w0 : World} {n : Nat} {Q : Exit → Act → World → Prop} {k : List KI} {e : Env} {L R : List HP} {all : Array Oper} {rest : List Oper} {ty : TypeId} {pos : String} {aft : Array Edge} {d : Nat}
variable {α : Type} {E' : E α}
theorem flat_take : ∀ (xs : List α) (m : Nat), flat E' (xs.take m) = (flat E' xs).take (m * E'.sz)
  | [], m => by simp
  | x :: xs, 0 => by simp
  | x :: xs, m + 1 => by
    rw [List.take_succ_cons, flat_cons, flat_cons, flat_take xs m, show (m + 1) * E'.sz = (E'.cells x).length + m * E'.sz from by rw [E'.len, Nat.add_mul]; omega, List.take_length_add_append]
theorem dv_copyAt {dT sT el s by' : Nat} {x y : Operand} {a2 : Option Addr} {b o c m m1 c1 c2 : Nat} (i : Nat) {xs ys : List α} {A : HP} {z : Value} [hu : TU P dT (.slice el)] [hux : TU P sT (.slice el)] [hi : TI P el z s by'] (hx : ev e x = some (.slice (some ⟨b, o + i * s, none⟩) m1 c1)) (hy : ev e y = some (.slice a2 m c2))
    (hv : View A E' a2 ys) (hn : ys.length = min m m1) (hm1 : i + m1 ≤ xs.length) (hf : FindAll L [Sl E' (some ⟨b, o, none⟩) c xs, A] R := by repeat (first | exact FindAll.nil | exact Find.here | apply Find.there | apply FindAll.cons)) (hs : E'.sz = s := by rfl) :
    DV P w0 (.call ⟨.builtin .copy, #[x, y], #[dT, sT]⟩) ty e L (fun v L' => v = .int .i64 (ys.length : Int) ∧ L' = Sl E' (some ⟨b, o, none⟩) c (xs.take i ++ (ys ++ xs.drop (i + ys.length))) :: A :: R) := dv_of_run fun tm w pos aft h2 h3 => by
  subst hs
  have h3' := h3.findAll hf
  obtain ⟨i', hinf, hzero, hsz, hbytes⟩ := hi.out
  obtain ⟨H1, hA1, hle1⟩ := (Sat.drop h3').atom
  have hsrc := (src_of_view (P := P) (tx := sT) (c := c2) hv hA1 hle1 hux.out).cells
  have hsrc' : (Builtin.firstCells E'.sz ys.length (.slice a2 m c2)).run P w = .ok (flat E' ys).toArray w := by
    cases a2 <;> exact hsrc
  obtain ⟨H0, hA0, hle0⟩ := h3'.atom
  obtain ⟨hc, hsp, row, T, hrow, pre, post, hr, hp, hq⟩ := hA0
  simp only at hp hrow
  have hrw := hle0 _ _ hrow
  have hle : ys.length ≤ m1 := by rw [hn]; exact Nat.min_le_right _ _
  have hrl : row.size = o + xs.length * E'.sz + post.length := by rw [← Array.length_toList, hr]; simp [flat_length, hp]; omega
  have hge : i * E'.sz + ys.length * E'.sz ≤ xs.length * E'.sz := by rw [← Nat.add_mul]; exact Nat.mul_le_mul_right _ (by omega)
  have hst := run_storeCells_at P b (o + i * E'.sz) T (flat E' ys) 0 row w hrw (by rw [flat_length, hrl]; omega) (flat_one E' ys)
  simp only [Nat.add_zero] at hst
  have hrun : (Builtin.copy_ #[dT, sT] ty #[.slice (some ⟨b, o + i * E'.sz, none⟩) m1 c1, .slice a2 m c2]).run P w = .ok (.int .i64 (ys.length : Int)) (w.setRow b (row.toList.take (o + i * E'.sz) ++ flat E' ys ++ row.toList.drop (o + i * E'.sz + (flat E' ys).length)).toArray) := by
    have hn' : min m1 m = ys.length := by rw [hn, Nat.min_comm]
    simp [Builtin.copy_, run_und hu.out, Builtin.lenOf, sizeOf, typeInfo, hinf, hsz, ← hn, hsrc', hst, goInt]
  refine ⟨_, _, _, by simp [execOp, resolve, invoke, builtin, ev_sound h2 hx, ev_sound h2 hy, hrun]; rfl, ⟨rfl, rfl⟩, ?_⟩
  refine Sat.turn1 (b := b) h3' (fun H hH => ?_) rfl rfl rfl (setRow_at hrw) (fun k hk => setRow_ne hk) (fun H hH => ?_)
  · obtain ⟨_, _, row, T, hb, _⟩ := hH
    rw [hb]; simp
  · have hlen : (xs.take i ++ (ys ++ xs.drop (i + ys.length))).length = xs.length := by simp; omega
    refine ⟨by rw [hlen]; exact hc, rfl, _, T, by simp; rfl, pre, post, ?_, hp, by rw [hlen]; exact hq⟩
    have e1 : row.toList.take (o + i * E'.sz) = pre ++ flat E' (xs.take i) := by
      rw [hr, List.append_assoc, ← hp, List.take_length_add_append, flat_take, List.take_append_of_le_length (by rw [flat_length]; omega)]
    have e2 : row.toList.drop (o + i * E'.sz + (flat E' ys).length) = flat E' (xs.drop (i + ys.length)) ++ post := by
      rw [hr, flat_length, flat_drop, List.append_assoc, Nat.add_assoc, ← List.drop_drop, List.drop_left' hp, List.drop_append_of_le_length (by rw [flat_length]; exact hge), Nat.add_mul]
    rw [e1, e2, flat_append, flat_append]
    simp [List.append_assoc]
end
end Go.Proofs.YtamecmklcnohjaaGreat.Sep
namespace Go.Proofs.YtamecmklcnohjaaGreat.Sep
set_option linter.unusedSimpArgs false
set_option linter.unusedVariables false
def leB : Nat → Int → List Int
  | 0, _ => []
  | k + 1, n => n % 256 :: leB k (n / 256)
def leN : List Int → Int
  | [] => 0
  | b :: l => b + 256 * leN l
def Byt (l : List Int) : Prop := ∀ b ∈ l, 0 ≤ b ∧ b ≤ 255
theorem leB_len : ∀ (k : Nat) (n : Int), (leB k n).length = k
  | 0, _ => rfl
  | k + 1, n => by simp [leB, leB_len k]
theorem leB_byt : ∀ (k : Nat) (n : Int), Byt (leB k n)
  | 0, _ => fun b hb => by cases hb
  | k + 1, n => fun b hb => by
    rcases List.mem_cons.1 hb with rfl | hb
    · omega
    · exact leB_byt k _ b hb
theorem div_div256 (n : Int) (i : Nat) : n / 256 / ((256 ^ i : Nat) : Int) = n / ((256 ^ (i + 1) : Nat) : Int) := by
  rw [Int.ediv_ediv_of_nonneg (by decide), Nat.pow_succ, Nat.mul_comm]
  rfl
theorem leB_get : ∀ (k : Nat) (n : Int) (i : Nat), i < k → (leB k n)[i]? = some (n / ((256 ^ i : Nat) : Int) % 256)
  | 0, _, i, h => by omega
  | k + 1, n, 0, h => by simp [leB]
  | k + 1, n, i + 1, h => by
    simp only [leB, List.getElem?_cons_succ]
    rw [leB_get k _ i (by omega), div_div256]
theorem leN_nn : ∀ {l : List Int}, Byt l → 0 ≤ leN l ∧ leN l < ((256 ^ l.length : Nat) : Int)
  | [], _ => by simp [leN]
  | b :: l, h => by
    have ih := leN_nn (l := l) (fun x hx => h x (by simp [hx]))
    have hb := h b (by simp)
    have e : ((256 ^ (l.length + 1) : Nat) : Int) = 256 * ((256 ^ l.length : Nat) : Int) := by rw [Nat.pow_succ, Nat.mul_comm]; rfl
    simp only [leN, List.length_cons, e]
    omega
theorem leN_leB : ∀ (k : Nat) (n : Int), 0 ≤ n → n < ((256 ^ k : Nat) : Int) → leN (leB k n) = n
  | 0, n, h0, h1 => by simp at h1; simp [leB, leN]; omega
  | k + 1, n, h0, h1 => by
    have e : ((256 ^ (k + 1) : Nat) : Int) = 256 * ((256 ^ k : Nat) : Int) := by rw [Nat.pow_succ, Nat.mul_comm]; rfl
    rw [e] at h1
    simp only [leB, leN]
    rw [leN_leB k (n / 256) (by omega) (by omega)]
    omega
theorem leN_snoc : ∀ (l : List Int) (b : Int), leN (l ++ [b]) = leN l + b * ((256 ^ l.length : Nat) : Int)
  | [], b => by simp [leN]
  | a :: l, b => by
    have e : ((256 ^ (l.length + 1) : Nat) : Int) = 256 * ((256 ^ l.length : Nat) : Int) := by rw [Nat.pow_succ, Nat.mul_comm]; rfl
    simp only [List.cons_append, leN, leN_snoc l b, List.length_cons, e]
    rw [Int.mul_add, Int.add_assoc]
    congr 2
    rw [← Int.mul_assoc, ← Int.mul_assoc, Int.mul_comm 256 b]
theorem leN_take {l : List Int} {i : Nat} (h : i < l.length) : leN (l.take (i + 1)) = leN (l.take i) + l[i] * ((256 ^ i : Nat) : Int) := by
  rw [List.take_succ_eq_append_getElem h, leN_snoc, List.length_take, Nat.min_eq_left (by omega)]
theorem or_add {a b i : Nat} (ha : a < 2 ^ (8 * i)) : a ||| (b * 2 ^ (8 * i)) = a + b * 2 ^ (8 * i) := by
  rw [Nat.or_comm, Nat.mul_comm, ← Nat.two_pow_add_eq_or_of_lt ha, Nat.add_comm]
theorem pow256 (i : Nat) : 256 ^ i = 2 ^ (8 * i) := by rw [Nat.pow_mul]

def rdM (m : Int → Int) (at_ : Int) (n : Nat) : List Int := (List.range n).map fun i : Nat => m (at_ + i)
def wrM (m : Int → Int) (at_ : Int) (bs : List Int) : Int → Int := fun a => if at_ ≤ a ∧ a < at_ + bs.length then bs.getD (a - at_).toNat 0 else m a
def zrM (m : Int → Int) (at_ n : Int) : Int → Int := fun a => if at_ ≤ a ∧ a < at_ + n then 0 else m a
theorem rdM_len (m : Int → Int) (at_ : Int) (n : Nat) : (rdM m at_ n).length = n := by simp [rdM]
theorem rdM_get {m : Int → Int} {at_ : Int} {n i : Nat} (h : i < n) : (rdM m at_ n)[i]? = some (m (at_ + i)) := by simp [rdM, h]
theorem rdM_ext {m m' : Int → Int} {at_ : Int} {n : Nat} (h : ∀ a, at_ ≤ a → a < at_ + n → m a = m' a) : rdM m at_ n = rdM m' at_ n := by
  simp only [rdM]
  apply List.map_congr_left
  intro i hi
  have := List.mem_range.1 hi
  exact h _ (by omega) (by omega)
theorem rd_wr (m : Int → Int) (at_ : Int) (bs : List Int) : rdM (wrM m at_ bs) at_ bs.length = bs := by
  apply List.ext_getElem?
  intro i
  by_cases h : i < bs.length
  · rw [rdM_get h]
    simp only [wrM]
    rw [if_pos (by omega), show (at_ + (i : Int) - at_).toNat = i from by omega]
    simp [List.getD, h]
  · rw [List.getElem?_eq_none (by rw [rdM_len]; omega), List.getElem?_eq_none (by omega)]
theorem rd_wr_ne {m : Int → Int} {at_ a2 : Int} {bs : List Int} {n : Nat} (h : a2 + n ≤ at_ ∨ at_ + bs.length ≤ a2) : rdM (wrM m at_ bs) a2 n = rdM m a2 n :=
  rdM_ext fun a h1 h2 => by simp only [wrM]; rw [if_neg (by omega)]
theorem rd_zr_ne {m : Int → Int} {at_ a2 k : Int} {n : Nat} (h : a2 + n ≤ at_ ∨ at_ + k ≤ a2) : rdM (zrM m at_ k) a2 n = rdM m a2 n :=
  rdM_ext fun a h1 h2 => by simp only [zrM]; rw [if_neg (by omega)]

def magicB : List Int := [115, 116, 101, 97, 100, 105, 110, 103]
structure Hd where
  pages : Int
  kind : Int
  owner : Int
  next : Int
def HdOk (h : Hd) : Prop := 1 ≤ h.pages ∧ h.pages ≤ 1048576 ∧ 0 ≤ h.kind ∧ h.kind < 256
instance (h : Hd) : Decidable (HdOk h) := by unfold HdOk; exact inferInstance
def hdB (h : Hd) : List Int := magicB ++ ((leB 4 h.pages ++ leB 4 h.kind) ++ (leB 8 h.owner ++ leB 8 h.next))
def hdOf (l : List Int) : Hd := ⟨leN ((l.drop 8).take 4), leN ((l.drop 12).take 4), leN ((l.drop 16).take 8), leN ((l.drop 24).take 8)⟩
def hdRead (l : List Int) : Option Hd := if l.take 8 = magicB ∧ HdOk (hdOf l) then some (hdOf l) else none
theorem hdB_len (h : Hd) : (hdB h).length = 32 := by simp [hdB, magicB, leB_len]
theorem hd_back {h : Hd} (hk : HdOk h) (h0 : 0 ≤ h.owner) (h1 : h.owner < 18446744073709551616) (h2 : 0 ≤ h.next) (h3 : h.next < 18446744073709551616) : hdRead (hdB h) = some h := by
  obtain ⟨a1, a2, a3, a4⟩ := hk
  have e : hdOf (hdB h) = h := by
    obtain ⟨p, k, o, x⟩ := h
    simp only [hdOf, hdB, magicB, leB, List.cons_append, List.nil_append, List.drop, List.take, Hd.mk.injEq]
    simp only at a1 a2 a3 a4 h0 h1 h2 h3
    refine ⟨?_, ?_, ?_, ?_⟩
    · exact leN_leB 4 p (by omega) (by show p < 4294967296; omega)
    · exact leN_leB 4 k (by omega) (by show k < 4294967296; omega)
    · exact leN_leB 8 o h0 h1
    · exact leN_leB 8 x h2 h3
  unfold hdRead
  rw [e, if_pos ⟨rfl, a1, a2, a3, a4⟩]
end Go.Proofs.YtamecmklcnohjaaGreat.Sep
namespace Go.Proofs.YtamecmklcnohjaaGreat.Sep
open Go.RowKit
set_option linter.unusedSimpArgs false
set_option linter.unusedVariables false
set_option linter.unusedSectionVars false
section
variable {P : Program} {w0 : World} {n : Nat} {Q : Exit → Act → World → Prop} {k : List KI} {e : Env} {L R : List HP} {all : Array Oper} {rest : List Oper} {ty : TypeId} {pos : String} {aft : Array Edge} {d : Nat}
theorem flat_eI (kk : IntKind) : ∀ xs : List Int, flat (eI kk) xs = xs.map (.int kk)
  | [] => rfl
  | x :: xs => by rw [flat_cons, flat_eI kk xs]; rfl
def Frz (b : Nat) (bs : List Int) : HP := fun H => ∃ (row : Array Value) (T : TypeId) (fr : Nat × Nat), H b = some (.cells row T fr) ∧ ∀ (j : Nat) (v : Value), (flat (eI .u8) bs)[j]? = some v → row[j]? = some v
theorem Frz.view {b : Nat} {bs : List Int} : View (Frz b bs) (eI .u8) (some ⟨b, 0, none⟩) bs := fun H ⟨row, T, fr, hb, h⟩ => .inr ⟨⟨b, 0, none⟩, rfl, rfl, row, T, fr, hb, fun j v hj => by simpa using h j v hj⟩
theorem rv_stringOf {S T el : TypeId} {x : Operand} {b o m c : Nat} {A : HP} {ns : List Int} (l : List UInt8) [hs : TU P S (.slice el)] [ht : TU P T .string] [he : TU P el (.int .u8)] (hx : ev e x = some (.slice (some ⟨b, o, none⟩) m c)) (hV : View A (eI .u8) (some ⟨b, o, none⟩) ns)
    (hm : m ≤ ns.length) (hl : l.map (fun b => (b.toNat : Int)) = ns.take m) (hf : Find L A R := by repeat (first | exact Find.here | apply Find.there)) : RV P w0 (.convert S T x) ty e L (.string ⟨l.toArray⟩) := fun tm w pos aft h2 h3 => by
  obtain ⟨H1, hA, hle⟩ := (h3.find hf).atom
  have hlm : l.length = m := by have := congrArg List.length hl; simp at this; omega
  have hc : ∀ j (hj : j < l.length), w.cell? ((⟨b, o, none⟩ : Addr).add j) = some (.int .u8 (l[j].toNat : Int)) := by
    intro j hj
    rcases hV H1 hA with rfl | ⟨ad, ha, hsp, row, T', fr, hb, hrow⟩
    · simp at hm; omega
    · cases ha
      have h5 : (flat (eI .u8) ns)[j]? = some (.int .u8 (l[j].toNat : Int)) := by
        rw [flat_eI, List.getElem?_map]
        have h6 : (ns.take m)[j]? = some (l[j].toNat : Int) := by rw [← hl]; simp [hj]
        rw [List.getElem?_take_of_lt (by omega)] at h6
        rw [h6]; rfl
      have h7 := hrow j _ h5
      have h8 : (⟨b, o, none⟩ : Addr).add j = ⟨b, o + j, none⟩ := by unfold Addr.add; split <;> simp_all
      rw [h8]
      simp only [World.cell?, hle _ _ hb]
      simpa using h7
  have hrun := run_convert_bytes_back (P := P) w S T el ⟨b, o, none⟩ c l hs.out he.out ht.out hc
  rw [hlm] at hrun
  simp [execOp, ev_sound h2 hx, hrun]
theorem run_guard_str {op : BinOp} {t : TypeId} {x y : Operand} {b : ByteArray} {v : Value} {w : World} : (eqGuard op t x y (.string b) v).run P w = .ok () w := by
  cases op <;> simp [eqGuard]
theorem run_eqStr {t : TypeId} {a b : ByteArray} (ht : P.underlying t = some .string) {w : World} : (Op.equal t (.string a) (.string b)).run P w = .ok (a == b) w :=
  equal_at P w t _ _ fun d => by simp [Op.equalIn, run_und ht]
theorem pv_neStr {t t' : TypeId} {x y : Operand} {a b : ByteArray} [ht : TU P t .string] (hx : ev e x = some (.string a) := by rfl) (hy : ev e y = some (.string b) := by rfl) : PV P (.binOp .neq t x y t') ty e (.bool (!(a.toList == b.toList))) :=
  fun tm w pos aft h => by
    simp only [execOp, ev_sound h hx, ev_sound h hy, Sem.run_bind, run_guard_str, Result.andThen_ok]
    simp [binOp, Op.stringOp, run_eqStr ht.out, bne]
theorem pv_sliceArrL {T el s by' len : Nat} {x lo : Operand} {z : Value} {b o : Nat} {kl : IntKind} {l : Int} [hu : TU P T (.array len el)] [hi : TI P el z s by'] (hx : ev e x = some (.pointer (some ⟨b, o, none⟩)) := by rfl) (hlo : ev e lo = some (.int kl l) := by rfl) (h0 : 0 ≤ l := by omega) (h1 : l ≤ (len : Int) := by omega) :
    PV P (.slice T x (some lo) none none) ty e (.slice (subA (some ⟨b, o, none⟩) l.toNat len s) (len - l.toNat) (len - l.toNat)) :=
  fun tm w pos aft h => by
    have h2 : (underlying T).run P w = .ok (.array len el) w := run_und hu.out
    have h4 : P.elem T = el := by unfold Program.elem; rw [hu.out]
    have h5 : P.arrayLen T = len := by unfold Program.arrayLen; rw [hu.out]
    have h6 := run_sliceAt_array_l (P := P) w T ⟨b, o, none⟩ (by rw [h4, h5]; exact hu.out) kl l h0 (by rw [h5]; exact h1)
    rw [h4, h5] at h6
    simp [execOp, ev_sound h hx, ev_sound h hlo, h6, run_size hi, slicedAt, subA]
    split <;> rfl
theorem pv_sliceArrLH {T el s by' len : Nat} {x lo hi : Operand} {z : Value} {b o : Nat} {kl kh : IntKind} {l h : Int} [hu : TU P T (.array len el)] [hti : TI P el z s by'] (hx : ev e x = some (.pointer (some ⟨b, o, none⟩)) := by rfl) (hlo : ev e lo = some (.int kl l) := by rfl) (hhi : ev e hi = some (.int kh h) := by rfl)
    (h0 : 0 ≤ l := by omega) (h1 : l ≤ h := by omega) (h2 : h ≤ (len : Int) := by omega) :
    PV P (.slice T x (some lo) (some hi) none) ty e (.slice (subA (some ⟨b, o, none⟩) l.toNat len s) (h.toNat - l.toNat) (len - l.toNat)) :=
  fun tm w pos aft ha => by
    have h3 : (underlying T).run P w = .ok (.array len el) w := run_und hu.out
    have h4 : P.elem T = el := by unfold Program.elem; rw [hu.out]
    have h5 : P.arrayLen T = len := by unfold Program.arrayLen; rw [hu.out]
    have h6 := run_sliceAt_array_lh (P := P) w T ⟨b, o, none⟩ (by rw [h4, h5]; exact hu.out) kl kh l h h0 h1 (by rw [h5]; exact h2)
    rw [h4, h5] at h6
    simp [execOp, ev_sound ha hx, ev_sound ha hlo, ev_sound ha hhi, h6, run_size hti, slicedAt, subA]
    split <;> rfl
theorem zeros_eq (kk : IntKind) (m : Nat) : (Builtin.zeroCells #[Value.int kk 0] m).toList = flat (eI kk) (List.replicate m 0) := by
  rw [flat_eI]
  apply List.ext_getElem?
  intro i
  by_cases h : i < m
  · simp [Builtin.zeroCells, h, Nat.mod_one]
  · simp [Builtin.zeroCells, h]
theorem dv_clearAt {t el by' : Nat} {x : Operand} {b o c m c2 : Nat} {kk : IntKind} (i : Nat) {xs : List Int} [hu : TU P t (.slice el)] [hi : TI P el (.int kk 0) 1 by'] (hx : ev e x = some (.slice (some ⟨b, o + i, none⟩) m c2))
    (hf : Find L (Sl (eI kk) (some ⟨b, o, none⟩) c xs) R := by repeat (first | exact Find.here | apply Find.there)) (hm : i + m ≤ xs.length) :
    DV P w0 (.call ⟨.builtin .clear, #[x], #[t]⟩) ty e L (fun _ L' => L' = Sl (eI kk) (some ⟨b, o, none⟩) c (xs.take i ++ (List.replicate m 0 ++ xs.drop (i + m))) :: R) := dv_of_run fun tm w pos aft h2 h3 => by
  have h3' := h3.find hf
  by_cases hm0 : m = 0
  · subst hm0
    refine ⟨.tuple #[], w, _, ?_, rfl, by simpa using h3'⟩
    have h4 : (Builtin.clear_ #[t] ty #[.slice (some ⟨b, o + i, none⟩) 0 c2]).run P w = .ok (.tuple #[]) w := by simp [Builtin.clear_, run_und hu.out]
    simp [execOp, resolve, invoke, builtin, ev_sound h2 hx, h4]
  obtain ⟨H0, hA0, hle0⟩ := h3'.atom
  obtain ⟨hc, hsp, row, T, hrow, pre, post, hr, hp, hq⟩ := hA0
  have hrw := hle0 _ _ hrow
  simp only at hp hrow hrw
  have hzl : (Builtin.zeroCells #[Value.int kk 0] m).toList.length = m := by rw [zeros_eq, flat_eI]; simp
  have hzo : ∀ v ∈ (Builtin.zeroCells #[Value.int kk 0] m).toList, v.oneCell' = true := by rw [zeros_eq]; exact flat_one _ _
  have hsize : row.size = o + xs.length + post.length := by rw [← Array.length_toList, hr]; simp [flat_length, hp, eI]; omega
  have hst := run_storeCells_at P b (o + i) T (Builtin.zeroCells #[Value.int kk 0] m).toList 0 row w hrw (by rw [hzl, hsize]; omega) hzo
  simp only [Nat.add_zero] at hst
  have hzc : (Value.int kk 0).cells = #[Value.int kk 0] := rfl
  have hrun : (Builtin.clear_ #[t] ty #[.slice (some ⟨b, o + i, none⟩) m c2]).run P w = .ok (.tuple #[]) (w.setRow b (row.toList.take (o + i) ++ (Builtin.zeroCells #[Value.int kk 0] m).toList ++ row.toList.drop (o + i + (Builtin.zeroCells #[Value.int kk 0] m).toList.length)).toArray) := by
    obtain ⟨m', rfl⟩ : ∃ m', m = m' + 1 := ⟨m - 1, by omega⟩
    simp only [Builtin.clear_, Sem.run_bind, run_und hu.out, Result.andThen_ok, run_zero hi, hst]
    simp [run_und hu.out, run_zero hi, hst, hzc]
  have hop : ∀ (res : Result Value), (Builtin.clear_ #[t] ty #[.slice (some ⟨b, o + i, none⟩) m c2]).run P w = res →
      (execOp (Act.mk tm []).eval ⟨none, .call ⟨.builtin .clear, #[x], #[t]⟩, ty, pos, aft, none⟩).run P w = res.andThen fun v w => .ok (.value v) w := by
    intro res h
    simp [execOp, resolve, invoke, builtin, ev_sound h2 hx, h]
  refine ⟨_, _, _, by rw [hop _ hrun]; rfl, rfl, ?_⟩
  refine Sat.turn1 (b := b) h3' (fun H hH => ?_) rfl rfl rfl (setRow_at hrw) (fun k hk => setRow_ne hk) (fun H hH => ?_)
  · obtain ⟨_, _, row, T, hb, _⟩ := hH
    rw [hb]; simp
  · have hlen : (xs.take i ++ (List.replicate m 0 ++ xs.drop (i + m))).length = xs.length := by simp; omega
    refine ⟨by rw [hlen]; exact hc, rfl, _, T, by simp; rfl, pre, post, ?_, hp, by rw [hlen]; exact hq⟩
    have e1 : row.toList.take (o + i) = pre ++ flat (eI kk) (xs.take i) := by
      rw [hr, List.append_assoc, ← hp, List.take_length_add_append, flat_take, List.take_append_of_le_length (by rw [flat_length]; simp [eI]; omega)]
      simp [eI]
    have hzs : (Builtin.zeroCells #[Value.int kk 0] m).size = m := by simpa using hzl
    have e2 : row.toList.drop (o + i + m) = flat (eI kk) (xs.drop (i + m)) ++ post := by
      rw [hr, flat_drop, List.append_assoc, Nat.add_assoc, ← List.drop_drop, List.drop_left' hp, List.drop_append_of_le_length (by rw [flat_length]; simp [eI]; omega)]
      simp [eI]
    rw [e1, hzs, e2, zeros_eq, flat_append, flat_append]
    simp [List.append_assoc]
def keyV (p : Int) : Value := .agg #[.int .u16 (p / 65536), .int .u16 (p % 65536)]
theorem run_eqPage {T el by' : Nat} {z : Value} (hu : P.underlying T = some (.array 2 el)) (he : P.underlying el = some (.int .u16)) (hi : TI P el z 1 by') (d : Nat) (a b : Int) (w : World) :
    (Op.equalIn (d + 2) T (keyV a) (keyV b)).run P w = .ok (a / 65536 == b / 65536 && a % 65536 == b % 65536) w := by
  have e1 := run_eqInt he d (a / 65536) (b / 65536) w
  have e2 := run_eqInt he d (a % 65536) (b % 65536) w
  have hs : (sizeOf el).run P w = .ok 1 w := run_size hi
  unfold Op.equalIn
  simp only [Sem.run_bind, run_und hu, Result.andThen_ok, keyV, hs]
  simp [Std.Legacy.Range.forIn_eq_forIn_range', Std.Legacy.Range.size, List.range', part, run_isAgg he, aggD, e1, e2]
  by_cases h1 : a / 65536 = b / 65536 <;> by_cases h2 : a % 65536 = b % 65536 <;> simp [*]
theorem tk_page {T el by' : Nat} {z : Value} [hu : TU P T (.array 2 el)] [he : TU P el (.int .u16)] [hi : TI P el z 1 by'] : TK P T keyV where
  inj := fun a b h => by
    simp only [keyV, Value.agg.injEq, Array.mk.injEq, List.cons.injEq, Value.int.injEq, true_and, and_true] at h
    omega
  check := fun em w a => by
    have key : ∀ d, (Instr.checkKey em (d + 2) T (keyV a)).run P w = .ok () w := fun d => by
      have e1 := run_checkInt he.out em d (a / 65536) w
      have e2 := run_checkInt he.out em d (a % 65536) w
      have hs : (sizeOf el).run P w = .ok 1 w := run_size hi
      unfold Instr.checkKey
      simp only [Sem.run_bind, run_und hu.out, Result.andThen_ok, keyV, hs]
      simp [Std.Legacy.Range.forIn_eq_forIn_range', Std.Legacy.Range.size, List.range', part, run_isAgg he.out, aggD, e1, e2, hs]
    exact key 9998
  eq := fun a b w => by
    have : (Op.equal T (keyV a) (keyV b)).run P w = _ := run_eqPage hu.out he.out hi 9998 a b w
    rw [this]
    refine congrArg (fun x => Result.ok x w) ?_
    by_cases e : a = b
    · subst e; simp
    · have : ¬ (a / 65536 = b / 65536 ∧ a % 65536 = b % 65536) := by omega
      by_cases e1 : a / 65536 = b / 65536 <;> by_cases e2 : a % 65536 = b % 65536 <;> simp [e1, e2, e] <;> omega
  bits := fun a => by simp [Instr.sameBits, keyV]
  now := ⟨_, hu.out, .inr fun a b => rfl⟩
theorem pv_buildArr {T el len m s by' by2 : Nat} {parts : Array (Nat × Operand)} {z z2 : Value} {vs : List Value} (cells : List Value) [hu : TU P T (.array m el)] [hi : TI P T z len by'] [he : TI P el z2 s by2]
    (hv : evl e (parts.toList.map (·.2)) = some vs := by rfl) (hf : Instr.fill (fun i => some (i * s, s)) z.cells ((parts.toList.map (·.1)).zip vs) = some cells.toArray := by rfl) : PV P (.build T parts) ty e (.agg cells.toArray) := fun tm w pos aft h2 => by
  have h4 := evl_sound (ds := []) h2 hv
  have hparts : parts.toList.map (fun x => (x.fst, (Act.mk tm []).eval x.snd)) = (parts.toList.map (·.1)).zip vs := by
    rw [← h4]
    generalize parts.toList = l
    induction l with
    | nil => rfl
    | cons p l ih => simp [ih]
  have hus : (underlying T).run P w = .ok (.array m el) w := run_und hu.out
  have hsz : (sizeOf el).run P w = .ok s w := run_size he
  simp only [execOp, Instr.build, Sem.run_bind, run_zero hi, Result.andThen_ok, hus, hsz]
  have hp2 : (Array.map (fun x : Nat × Operand => match x with | (i, x) => (i, (Act.mk tm []).eval x)) parts).toList = (parts.toList.map (·.1)).zip vs := by rw [Array.toList_map]; exact hparts
  rw [hp2]
  have hf' : Instr.fill (fun i => some (i * s, s)) z.cells ((parts.toList.map (·.1)).zip vs) = some cells.toArray := hf
  rw [hf']
  rfl
end
end Go.Proofs.YtamecmklcnohjaaGreat.Sep
namespace Go.Proofs.YtamecmklcnohjaaGreat.Sep
set_option linter.unusedSimpArgs false
set_option linter.unusedVariables false
def memOf (M : List (Int × Nat × List Int)) (a : Int) : Int := match lk M (a / 4096) with
  | none => 0
  | some q => q.2.getD (a % 4096).toNat 0
def POk (P : Int) (M : List (Int × Nat × List Int)) : Prop := ∀ q ∈ M, 0 ≤ q.1 ∧ q.1 < P ∧ q.2.2.length = 4096
def cutIn (xs : List Int) (i : Nat) (bs : List Int) : List Int := xs.take i ++ (bs ++ xs.drop (i + bs.length))
theorem cutIn_len {xs bs : List Int} {i : Nat} (h : i + bs.length ≤ xs.length) : (cutIn xs i bs).length = xs.length := by simp [cutIn]; omega
theorem cutIn_get {xs bs : List Int} {i j : Nat} (h : i + bs.length ≤ xs.length) : (cutIn xs i bs).getD j 0 = if i ≤ j ∧ j < i + bs.length then bs.getD (j - i) 0 else xs.getD j 0 := by
  simp only [List.getD, cutIn]
  congr 1
  by_cases h1 : j < i
  · rw [List.getElem?_append_left (by simp; omega), List.getElem?_take_of_lt h1, if_neg (by omega)]
  · rw [List.getElem?_append_right (by simp; omega), List.length_take, Nat.min_eq_left (by omega)]
    by_cases h2 : j < i + bs.length
    · rw [if_pos ⟨by omega, h2⟩, List.getElem?_append_left (by omega)]
    · rw [if_neg (by omega), List.getElem?_append_right (by omega), List.getElem?_drop, show i + bs.length + (j - i - bs.length) = j from by omega]
theorem rep0 (n j : Nat) : (List.replicate n (0 : Int)).getD j 0 = 0 := by
  simp only [List.getD, List.getElem?_replicate]
  split <;> rfl
theorem memOf_new {M : List (Int × Nat × List Int)} {p : Int} {b : Nat} (h : lk M p = none) (a : Int) : memOf (ins M p (b, List.replicate 4096 0)) a = memOf M a := by
  unfold memOf
  rw [lk_ins]
  by_cases e : a / 4096 = p
  · rw [if_pos e, e, h]
    exact rep0 _ _
  · rw [if_neg e]
theorem memOf_put {M : List (Int × Nat × List Int)} {p : Int} {b : Nat} {xs bs : List Int} {i : Nat} (h : lk M p = some (b, xs)) (hl : xs.length = 4096) (hi : i + bs.length ≤ 4096) (a : Int) :
    memOf (ins M p (b, cutIn xs i bs)) a = wrM (memOf M) (p * 4096 + i) bs a := by
  simp only [memOf, wrM, lk_ins]
  by_cases e : a / 4096 = p
  · rw [if_pos e, e, h]
    simp only
    rw [cutIn_get (by omega)]
    by_cases h2 : i ≤ (a % 4096).toNat ∧ (a % 4096).toNat < i + bs.length
    · rw [if_pos h2, if_pos (by omega)]
      congr 1; omega
    · rw [if_neg h2, if_neg (by omega)]
  · rw [if_neg e, if_neg (by omega)]
theorem wr_nil (m : Int → Int) (at_ : Int) : wrM m at_ [] = m := by
  funext a; simp only [wrM]; rw [if_neg (by simp only [List.length_nil]; omega)]
theorem wr_wr (m : Int → Int) (at_ : Int) (bs cs : List Int) : wrM (wrM m at_ bs) (at_ + bs.length) cs = wrM m at_ (bs ++ cs) := by
  funext a
  simp only [wrM, List.length_append]
  by_cases h1 : at_ + bs.length ≤ a ∧ a < at_ + bs.length + cs.length
  · rw [if_pos h1, if_pos (by omega)]
    simp only [List.getD]
    rw [List.getElem?_append_right (by omega)]
    congr 2; omega
  · rw [if_neg h1]
    by_cases h2 : at_ ≤ a ∧ a < at_ + bs.length
    · rw [if_pos h2, if_pos (by omega)]
      simp only [List.getD]
      rw [List.getElem?_append_left (by omega)]
    · rw [if_neg h2, if_neg (by omega)]
theorem rd_app (m : Int → Int) (at_ : Int) (n k : Nat) : rdM m at_ (n + k) = rdM m at_ n ++ rdM m (at_ + n) k := by
  simp only [rdM, List.range_add, List.map_append, List.map_map]
  congr 1
  apply List.map_congr_left
  intro i _
  simp [Int.add_assoc]
theorem rd_page {M : List (Int × Nat × List Int)} {p : Int} {b : Nat} {xs : List Int} {i n : Nat} (h : lk M p = some (b, xs)) (hl : xs.length = 4096) (hi : i + n ≤ 4096) : rdM (memOf M) (p * 4096 + i) n = (xs.drop i).take n := by
  apply List.ext_getElem?
  intro j
  by_cases hj : j < n
  · simp only [rdM, List.getElem?_map, List.getElem?_range hj, Option.map_some, memOf]
    rw [show (p * 4096 + (i : Int) + (j : Int)) / 4096 = p from by omega, h]
    simp only
    rw [show ((p * 4096 + (i : Int) + (j : Int)) % 4096).toNat = i + j from by omega, List.getElem?_take_of_lt hj, List.getElem?_drop, List.getD]
    have : i + j < xs.length := by omega
    simp [this]
  · rw [List.getElem?_eq_none (by simp [rdM]; omega), List.getElem?_eq_none (by simp; omega)]
theorem rd_none {M : List (Int × Nat × List Int)} {p : Int} {i n : Nat} (h : lk M p = none) (hi : i + n ≤ 4096) : rdM (memOf M) (p * 4096 + i) n = List.replicate n 0 := by
  apply List.ext_getElem?
  intro j
  by_cases hj : j < n
  · simp only [rdM, List.getElem?_map, List.getElem?_range hj, Option.map_some, memOf]
    rw [show (p * 4096 + (i : Int) + (j : Int)) / 4096 = p from by omega, h]
    simp [hj]
  · rw [List.getElem?_eq_none (by simp [rdM]; omega), List.getElem?_eq_none (by simp; omega)]
structure Mm where
  f : Int → Int
  t : Int
def touchI (at_ n : Int) : Int := if n = 0 then 1 else (at_ + n - 1) / 4096 - at_ / 4096 + 1
def tkM (m : Mm) (k : Int) : Mm := ⟨m.f, IntKind.i64.wrap (m.t + k)⟩
def stM (m : Mm) (at_ : Int) (bs : List Int) : Mm := ⟨wrM m.f at_ bs, IntKind.i64.wrap (m.t + touchI at_ bs.length)⟩
def zzM (m : Mm) (at_ n : Int) : Mm := ⟨zrM m.f at_ n, IntKind.i64.wrap (m.t + touchI at_ n)⟩
def ldM (m : Mm) (at_ n : Int) : Mm := ⟨m.f, IntKind.i64.wrap (m.t + touchI at_ n)⟩
theorem touch_hdr (page : Int) : touchI (page * 4096) 32 = 1 := by unfold touchI; rw [if_neg (by decide)]; omega
end Go.Proofs.YtamecmklcnohjaaGreat.Sep
namespace Go.Proofs.YtamecmklcnohjaaGreat.Sep
open Go.RowKit
set_option linter.unusedSimpArgs false
set_option linter.unusedVariables false
theorem cutIn_nil (xs : List Int) (i : Nat) : cutIn xs i [] = xs := by simp [cutIn]
theorem cutIn_step {xs l : List Int} {at_ i : Nat} (hi : i < l.length) (h : at_ + l.length ≤ xs.length) : (cutIn xs at_ (l.take i)).set (at_ + i) l[i] = cutIn xs at_ (l.take (i + 1)) := by
  have e1 : (l.take i).length = i := by simp; omega
  have e2 : (l.take (i + 1)).length = i + 1 := by simp; omega
  have e3 : (xs.take at_).length = at_ := by simp; omega
  have hd : at_ + i < xs.length := by omega
  simp only [cutIn, e1, e2]
  rw [List.set_append_right _ _ (by rw [e3]; omega), e3, List.set_append_right _ _ (by rw [e1]; omega), e1, show at_ + i - at_ - i = 0 from by omega, List.drop_eq_getElem_cons hd, List.set_cons_zero, List.take_succ_eq_append_getElem hi, List.append_assoc (l.take i)]
  rfl
theorem shl_fit {i : Nat} {b : Int} (hi : i < 8) (h0 : 0 ≤ b) (h1 : b ≤ 255) : b * ((256 ^ i : Nat) : Int) < 18446744073709551616 ∧ 0 ≤ b * ((256 ^ i : Nat) : Int) := by
  have : i = 0 ∨ i = 1 ∨ i = 2 ∨ i = 3 ∨ i = 4 ∨ i = 5 ∨ i = 6 ∨ i = 7 := by omega
  rcases this with rfl | rfl | rfl | rfl | rfl | rfl | rfl | rfl <;> (simp; omega)
theorem bitop_or_u64 {a b : Nat} (ha : a < 18446744073709551616) (hb : b < 18446744073709551616) : bitop .or .u64 a b = ((a ||| b : Nat) : Int) := by
  have h1 : a ||| b < 2 ^ 64 := Nat.or_lt_two_pow ha hb
  have e1 : BitVec.ofInt 64 (a : Int) = BitVec.ofNat 64 a := by simp
  have e2 : BitVec.ofInt 64 (b : Int) = BitVec.ofNat 64 b := by simp
  have : (BitVec.ofNat 64 a ||| BitVec.ofNat 64 b).toNat = a ||| b := by
    rw [BitVec.toNat_or, BitVec.toNat_ofNat, BitVec.toNat_ofNat, Nat.mod_eq_of_lt (by omega), Nat.mod_eq_of_lt (by omega)]
  show IntKind.u64.wrap ((BitVec.ofInt 64 (a : Int) ||| BitVec.ofInt 64 (b : Int)).toNat : Int) = _
  rw [e1, e2, this]
  exact wrap_u64 (by omega) (by omega)
theorem or_step {n b : Int} {i : Nat} (hi : i < 8) (h0 : 0 ≤ n) (h1 : n < ((256 ^ i : Nat) : Int)) (b0 : 0 ≤ b) (b1 : b ≤ 255) : bitop .or .u64 n (b * ((256 ^ i : Nat) : Int)) = n + b * ((256 ^ i : Nat) : Int) := by
  obtain ⟨f1, f2⟩ := shl_fit hi b0 b1
  obtain ⟨n', rfl⟩ : ∃ n' : Nat, n = (n' : Int) := ⟨n.toNat, by omega⟩
  obtain ⟨b', rfl⟩ : ∃ b' : Nat, b = (b' : Int) := ⟨b.toNat, by omega⟩
  have e : (b' : Int) * ((256 ^ i : Nat) : Int) = ((b' * 2 ^ (8 * i) : Nat) : Int) := by rw [← pow256]; simp
  rw [e] at f1 ⊢
  have hn : n' < 2 ^ (8 * i) := by rw [← pow256]; omega
  have hle : 2 ^ (8 * i) ≤ 2 ^ 64 := Nat.pow_le_pow_right (by decide) (by omega)
  rw [bitop_or_u64 (by omega) (by omega), or_add hn]
  omega
set_option maxHeartbeats 8000000
attribute [local irreducible] X XE XO XD XDi XDa PV RV DV pt base Spec Sl Mp Keeps
theorem wide_spec (w : Int) (hw : w = 1 ∨ w = 2 ∨ w = 4 ∨ w = 8) : Spec Tryz.prog 195 [.int .i64 w] [] (fun v L => v = .bool true ∧ L = []) := by
  refine Spec.intro (IsEnt.out) Tryz.func195 rfl Tryz.ntmps195 (by simp) (fun w0 F => ?_)
  simp only [envOf, List.zipIdx, List.map, List.cons_append, List.nil_append, Nat.zero_add, Nat.reduceAdd]
  rcases hw with rfl | rfl | rfl | rfl
  all_goals
    (repeat refine Z ?_)
    refine XE_ret (.inl rfl) (tells_tmps rfl rfl) ⟨_, ⟨?_, rfl⟩, by exact EN⟩
    exact congrArg Value.bool (by decide +kernel)
theorem wright_spec (n at_ w : Int) (hw : w = 1 ∨ w = 2 ∨ w = 4 ∨ w = 8) (h0 : 0 ≤ at_) (h1 : at_ + w ≤ n) (h2 : n ≤ 1099511627776) : Spec Tryz.prog 197 [.int .i64 n, .int .i64 at_, .int .i64 w] [] (fun v L => v = .bool true ∧ L = []) := by
  refine Spec.intro (IsEnt.out) Tryz.func197 rfl Tryz.ntmps197 (by simp) (fun w0 F => ?_)
  simp only [envOf, List.zipIdx, List.map, List.cons_append, List.nil_append, Nat.zero_add, Nat.reduceAdd]
  (repeat refine Z ?_)
  refine XO_call (wide_spec w hw) (hk := ?_)
  rintro _ _ ⟨rfl, rfl⟩
  (repeat refine Z ?_)
  refine XO_known true (hb := by simp; omega) (hk := ?_)
  (repeat refine Z ?_)
  refine XO_known true (hb := by simp; omega) (hk := ?_)
  (repeat refine Z ?_)
  refine XE_ret (.inl rfl) (tells_tmps rfl rfl) ⟨_, ⟨?_, rfl⟩, by exact EN⟩
  exact congrArg Value.bool (decide_eq_true (by omega))
theorem w8 {w : Int} (hw : w = 1 ∨ w = 2 ∨ w = 4 ∨ w = 8) : ∃ k : Nat, w = (k : Int) ∧ 1 ≤ k ∧ k ≤ 8 := by
  rcases hw with rfl | rfl | rfl | rfl
  · exact ⟨1, rfl, by decide, by decide⟩
  · exact ⟨2, rfl, by decide, by decide⟩
  · exact ⟨4, rfl, by decide, by decide⟩
  · exact ⟨8, rfl, by decide, by decide⟩
theorem shr_eq (n : Int) {i : Nat} (h : i < 8) : n / ((2 ^ (min (8 * (i : Int)).toNat IntKind.u64.bits) : Nat) : Int) = n / ((256 ^ i : Nat) : Int) := by
  rw [pow256, show min (8 * (i : Int)).toNat IntKind.u64.bits = 8 * i from by show min (8 * (i : Int)).toNat 64 = 8 * i; omega]
theorem wput_spec (b c at_ : Nat) (xs : List Int) (w n : Int) (hw : w = 1 ∨ w = 2 ∨ w = 4 ∨ w = 8) (h : (at_ : Int) + w ≤ xs.length) (hl : xs.length ≤ 1099511627776) :
    Spec Tryz.prog 196 [.slice (some ⟨b, 0, none⟩) xs.length c, .int .i64 at_, .int .i64 w, .int .u64 n] [Sl (eI .u8) (some ⟨b, 0, none⟩) c xs] (fun v L => v = .bool true ∧ L = [Sl (eI .u8) (some ⟨b, 0, none⟩) c (cutIn xs at_ (leB w.toNat n))]) := by
  refine Spec.intro (IsEnt.out) Tryz.func196 rfl Tryz.ntmps196 (by simp) (fun w0 F => ?_)
  simp only [envOf, List.zipIdx, List.map, List.cons_append, List.nil_append, Nat.zero_add, Nat.reduceAdd]
  (repeat refine Z ?_)
  refine XO_call (wright_spec xs.length at_ w hw (by omega) h (by omega)) (hk := ?_)
  rintro _ _ ⟨rfl, rfl⟩
  (repeat refine Z ?_)
  refine X_cond rfl (fun h => by cases h) (fun _ => ?_)
  obtain ⟨m, rfl, hm1, hm8⟩ := w8 hw
  have hlB : (leB (m : Int).toNat n).length = m := by rw [leB_len]; omega
  (repeat refine Z ?_)
  refine X_loop (ι := Nat) (fun k => k ≤ m) (fun k => [(0, .slice (some ⟨b, 0, none⟩) xs.length c), (1, .int .i64 at_), (3, .int .u64 n), (16, .int .i64 m), (17, .int .i64 k)]) (fun k => Sl (eI .u8) (some ⟨b, 0, none⟩) c (cutIn xs at_ ((leB (m : Int).toNat n).take k)) :: F) (fun k => m - k) 0 (Nat.zero_le _) ?_ (by rw [List.take_zero, cutIn_nil]; exact EN) ?_
  · exact SBs
  intro k hk
  dsimp only at hk ⊢
  have hcl : (cutIn xs at_ ((leB (m : Int).toNat n).take k)).length = xs.length := cutIn_len (by simp; omega)
  (repeat refine Z ?_)
  refine X_cond rfl (fun hc => ?_) (fun hc => ?_) <;> simp only [decide_eq_true_eq, decide_eq_false_iff_not] at hc
  · (repeat refine Z ?_)
    refine XO_pv (pv_shrN) (hk := ?_)
    refine XO_reval 27 (.int .u64 (n / ((256 ^ k : Nat) : Int))) (hv := by rw [shr_eq n (by omega)]) (hk := ?_)
    refine XO_pv (pv_conv_int (hw := rfl)) (hk := ?_)
    have hkl : k < (leB (m : Int).toNat n).length := by omega
    refine XO_reval 28 (.int .u8 (leB (m : Int).toNat n)[k]) (hv := by
      have h5 := leB_get (m : Int).toNat n k (by omega)
      rw [List.getElem?_eq_getElem hkl] at h5
      rw [Option.some.inj h5]; rfl) (hk := ?_)
    (repeat refine Z ?_)
    refine XO_reval 29 (.pointer (some ⟨b, at_ + k, none⟩)) (hv := by rw [show 0 + ((at_ : Int) + (k : Int)).toNat * 1 = at_ + k from by omega]) (hk := ?_)
    refine XO_dv0 (dv_putAt (kk := .u8) (i := at_ + k)) (hk := ?_)
    rintro _ _ rfl
    (repeat refine Z ?_)
    exact X_round (k + 1) (by show k + 1 ≤ m; omega) (by show m - (k + 1) < m - k; omega) (by exact SBs) (by rw [cutIn_step hkl (by omega)]; exact EN)
  · obtain rfl : k = m := by omega
    (repeat refine Z ?_)
    rw [List.take_of_length_le (by omega)]
    refine XE_ret (.inl rfl) (tells_tmps rfl rfl) ⟨_, ⟨rfl, rfl⟩, by exact EN⟩
theorem wget_spec (A : HP) (b o c at_ : Nat) (xs : List Int) (w : Int) (hw : w = 1 ∨ w = 2 ∨ w = 4 ∨ w = 8) (h : (at_ : Int) + w ≤ xs.length) (hl : xs.length ≤ 1099511627776) (hV : View A (eI .u8) (some ⟨b, o, none⟩) xs) (hB : Byt xs) :
    Spec Tryz.prog 187 [.slice (some ⟨b, o, none⟩) xs.length c, .int .i64 at_, .int .i64 w] [A] (fun v L => v = .tuple #[.int .u64 (leN ((xs.drop at_).take w.toNat)), .bool true] ∧ L = [A]) := by
  refine Spec.intro (IsEnt.out) Tryz.func187 rfl Tryz.ntmps187 (by simp) (fun w0 F => ?_)
  simp only [envOf, List.zipIdx, List.map, List.cons_append, List.nil_append, Nat.zero_add, Nat.reduceAdd]
  (repeat refine Z ?_)
  refine XO_call (wright_spec xs.length at_ w hw (by omega) h (by omega)) (hk := ?_)
  rintro _ _ ⟨rfl, rfl⟩
  (repeat refine Z ?_)
  refine X_cond rfl (fun h => by cases h) (fun _ => ?_)
  obtain ⟨m, rfl, hm1, hm8⟩ := w8 hw
  (repeat refine Z ?_)
  refine X_loop (ι := Nat) (fun k => k ≤ m) (fun k => [(0, .slice (some ⟨b, o, none⟩) xs.length c), (1, .int .i64 at_), (8, .int .u64 (leN ((xs.drop at_).take k))), (16, .int .i64 m), (17, .int .i64 k)]) (fun k => A :: F) (fun k => m - k) 0 (Nat.zero_le _) ?_ (by exact EN) ?_
  · exact SBs
  intro k hk
  dsimp only at hk ⊢
  (repeat refine Z ?_)
  refine X_cond rfl (fun hc => ?_) (fun hc => ?_) <;> simp only [decide_eq_true_eq, decide_eq_false_iff_not] at hc
  · have hkl : at_ + k < xs.length := by omega
    have hb := hB xs[at_ + k] (List.getElem_mem hkl)
    (repeat refine Z ?_)
    refine XO_reval 25 (.pointer (some ⟨b, o + (at_ + k) * 1, none⟩)) (hv := by rw [show ((at_ : Int) + (k : Int)).toNat = at_ + k from by omega]) (hk := ?_)
    refine XO_rv (rv_velG (E' := eI .u8) (s := 1) (i := at_ + k) (x' := xs[at_ + k]) (hV := hV) (hget := by rw [List.getElem?_eq_getElem hkl])) (hk := ?_)
    refine XO_reval 26 (.int .u8 xs[at_ + k]) (hv := rfl) (hk := ?_)
    (repeat refine Z ?_)
    refine XO_pv (pv_shlN (hw := rfl)) (hk := ?_)
    obtain ⟨f1, f2⟩ := shl_fit (i := k) (b := xs[at_ + k]) (by omega) hb.1 hb.2
    refine XO_reval 30 (.int .u64 (xs[at_ + k] * ((256 ^ k : Nat) : Int))) (hv := by
      rw [show min (8 * (k : Int)).toNat IntKind.u64.bits = 8 * k from by show min (8 * (k : Int)).toNat 64 = 8 * k; omega, ← pow256]
      exact congrArg (Value.int .u64) (wrap_u64 f2 (by omega))) (hk := ?_)
    refine XO_pv pv_bits (hk := ?_)
    have hBd : Byt ((xs.drop at_).take k) := fun x hx => hB x ((List.drop_subset _ _) ((List.take_subset _ _) hx))
    have hnn := leN_nn hBd
    rw [List.length_take, List.length_drop, Nat.min_eq_left (by omega)] at hnn
    refine XO_reval 31 (.int .u64 (leN ((xs.drop at_).take (k + 1)))) (hv := by
      rw [leN_take (l := xs.drop at_) (i := k) (by simp; omega), List.getElem_drop]
      exact congrArg (Value.int .u64) (or_step (by omega) hnn.1 hnn.2 hb.1 hb.2)) (hk := ?_)
    (repeat refine Z ?_)
    exact X_round (k + 1) (by show k + 1 ≤ m; omega) (by show m - (k + 1) < m - k; omega) (by exact SBs) (by exact EN)
  · obtain rfl : k = m := by omega
    (repeat refine Z ?_)
    refine XE_ret (.inl rfl) (tells_tmps rfl rfl) ⟨_, ⟨rfl, rfl⟩, by exact EN⟩
def bsOf (w : Nat) (ns : List Int) : List Int := ns.flatMap (leB w)
theorem bsOf_len (w : Nat) : ∀ ns : List Int, (bsOf w ns).length = ns.length * w
  | [] => by simp [bsOf]
  | n :: ns => by
    have := bsOf_len w ns
    simp only [bsOf] at this
    simp only [bsOf, List.flatMap_cons, List.length_append, leB_len, this, List.length_cons, Nat.add_mul]; omega
theorem bsOf_snoc (w : Nat) (ns : List Int) (n : Int) : bsOf w (ns ++ [n]) = bsOf w ns ++ leB w n := by simp [bsOf]
theorem cut_zeros {p q : List Int} {r : Nat} (h : q.length ≤ r) : cutIn (p ++ List.replicate r 0) p.length q = (p ++ q) ++ List.replicate (r - q.length) 0 := by
  unfold cutIn
  rw [List.take_left, List.drop_append, show p.length + q.length - p.length = q.length from by omega, List.drop_of_length_le (l := p) (by omega), List.nil_append, List.drop_replicate, List.append_assoc]
theorem wbytes_spec (A : HP) (a : Option Addr) (c : Nat) (ns : List Int) (w : Int) (hw : w = 1 ∨ w = 2 ∨ w = 4 ∨ w = 8) (hl : ns.length ≤ 1048576) (hV : View A (eI .u64) a ns) :
    Spec Tryz.prog 185 [.int .i64 w, .slice a ns.length c] [A] (fun v L => ∃ b, v = .slice (some ⟨b, 0, none⟩) (bsOf w.toNat ns).length (bsOf w.toNat ns).length ∧ L = [Sl (eI .u8) (some ⟨b, 0, none⟩) (bsOf w.toNat ns).length (bsOf w.toNat ns), A]) := by
  refine Spec.intro (IsEnt.out) Tryz.func185 rfl Tryz.ntmps185 (by simp) (fun w0 F => ?_)
  simp only [envOf, List.zipIdx, List.map, List.cons_append, List.nil_append, Nat.zero_add, Nat.reduceAdd]
  (repeat refine Z ?_)
  refine XO_call (wide_spec w hw) (hk := ?_)
  rintro _ _ ⟨rfl, rfl⟩
  (repeat refine Z ?_)
  refine X_cond rfl (fun h => by cases h) (fun _ => ?_)
  obtain ⟨m, rfl, hm1, hm8⟩ := w8 hw
  have hmn : m * ns.length ≤ 8 * 1048576 := Nat.mul_le_mul hm8 hl
  have hmi : (m : Int) * (ns.length : Int) = ((m * ns.length : Nat) : Int) := by simp
  (repeat refine Z ?_)
  refine XO_reval 14 (.int .i64 ((m * ns.length : Nat) : Int)) (hv := by rw [hmi]) (hk := ?_)
  refine XO_dv (dv_makeSlice (E' := eI .u8) 0) (hk := ?_)
  rintro _ _ ⟨b, rfl, rfl⟩
  simp only [Int.toNat_natCast]
  generalize hT : m * ns.length = T at hmn hmi ⊢
  have hbl : ∀ k, k ≤ ns.length → (bsOf m (ns.take k)).length = k * m := fun k hk => by rw [bsOf_len, List.length_take, Nat.min_eq_left hk]
  have hsp : ∀ k, k ≤ ns.length → k * m + (ns.length - k) * m = T := fun k hk => by rw [← Nat.add_mul, ← hT, Nat.mul_comm m]; congr 1; omega
  have hfl : (bsOf m ns).length = T := by rw [bsOf_len, ← hT, Nat.mul_comm]
  have hmT : ((m : Int)).toNat = m := by omega
  simp only [hfl]
  (repeat refine Z ?_)
  refine X_loop (ι := Nat) (fun k => k ≤ ns.length) (fun k => [(0, .int .i64 m), (5, .slice (some ⟨b, 0, none⟩) T T), (16, .slice a ns.length c), (17, .int .i64 ns.length), (18, .int .i64 k)]) (fun k => Sl (eI .u8) (some ⟨b, 0, none⟩) T (bsOf m (ns.take k) ++ List.replicate ((ns.length - k) * m) 0) :: A :: F) (fun k => ns.length - k) 0 (Nat.zero_le _) ?_ (by
    rw [show bsOf m (ns.take 0) ++ List.replicate ((ns.length - 0) * m) 0 = List.replicate T 0 from by rw [← hT, Nat.mul_comm m]; rfl]; exact EN) ?_
  · exact SBs
  intro k hk
  dsimp only at hk ⊢
  (repeat refine Z ?_)
  refine X_cond rfl (fun hc => ?_) (fun hc => ?_) <;> simp only [decide_eq_true_eq, decide_eq_false_iff_not] at hc
  · have hkl : k < ns.length := by omega
    refine X_view (by exact FDs) hV (by omega) ?_
    rintro b2 o2 rfl
    (repeat refine Z ?_)
    refine XO_rv (rv_velG (E' := eI .u64) (s := 1) (i := k) (x' := ns[k]) (hV := hV) (hget := by rw [List.getElem?_eq_getElem hkl])) (hk := ?_)
    refine XO_reval 22 (.int .u64 ns[k]) (hv := rfl) (hk := ?_)
    have hkm := hsp k hk
    have hkm1 := hsp (k + 1) hkl
    have hki : (k : Int) * (m : Int) = ((k * m : Nat) : Int) := by simp
    (repeat refine Z ?_)
    refine XO_reval 26 (.int .i64 ((k * m : Nat) : Int)) (hv := by rw [hki]) (hk := ?_)
    have hlen : (bsOf m (ns.take k) ++ List.replicate ((ns.length - k) * m) 0).length = T := by rw [List.length_append, hbl k hk, List.length_replicate]; omega
    have hm2 : m ≤ (ns.length - k) * m := Nat.le_mul_of_pos_left m (by omega)
    have hput := wput_spec b T (k * m) (bsOf m (ns.take k) ++ List.replicate ((ns.length - k) * m) 0) m ns[k] hw (by omega) (by omega)
    rw [hlen, hmT, show k * m = (bsOf m (ns.take k)).length from (hbl k hk).symm, cut_zeros (by rw [leB_len]; omega), leB_len, ← bsOf_snoc, ← List.take_succ_eq_append_getElem hkl, hbl k hk, show (ns.length - k) * m - m = (ns.length - (k + 1)) * m from by rw [Nat.add_mul] at hkm1; omega] at hput
    refine XO_call hput (hk := ?_)
    rintro _ _ ⟨rfl, rfl⟩
    (repeat refine Z ?_)
    exact X_round (k + 1) (by show k + 1 ≤ _; omega) (by show ns.length - (k + 1) < ns.length - k; omega) (by exact SBs) (by exact EN)
  · obtain rfl : k = ns.length := by omega
    (repeat refine Z ?_)
    rw [List.take_length, Nat.sub_self, Nat.zero_mul, List.replicate_zero, List.append_nil]
    refine XE_ret (.inl rfl) (tells_tmps rfl rfl) ⟨_, ⟨b, rfl, rfl⟩, ?_⟩
    exact EN
end Go.Proofs.YtamecmklcnohjaaGreat.Sep
namespace Go.Proofs.YtamecmklcnohjaaGreat.Sep
open Go.RowKit
set_option linter.unusedSimpArgs false
set_option linter.unusedVariables false
section
variable {κ α β : Type} [DecidableEq κ]
theorem lk_map (f : α → β) (k : κ) : ∀ l : List (κ × α), lk (l.map fun q => (q.1, f q.2)) k = (lk l k).map f
  | [] => rfl
  | (k', v) :: l => by
    have ih := lk_map f k l
    simp only [List.map_cons, lk]
    split
    · rfl
    · exact ih
theorem lk_split {k : κ} {v : α} : ∀ {l : List (κ × α)}, lk l k = some v → ∃ l1 l2, l = l1 ++ (k, v) :: l2 ∧ lk l1 k = none
  | [], h => by cases h
  | (k', v') :: l, h => by
    simp only [lk] at h
    split at h
    · rename_i he
      cases h
      exact ⟨[], l, by rw [he]; rfl, rfl⟩
    · rename_i he
      obtain ⟨l1, l2, rfl, h1⟩ := lk_split h
      exact ⟨(k', v') :: l1, l2, rfl, by simp only [lk]; rw [if_neg he]; exact h1⟩
theorem lk_mid {k : κ} {v : α} : ∀ {l1 l2 : List (κ × α)}, lk l1 k = none → lk (l1 ++ (k, v) :: l2) k = some v
  | [], l2, _ => by simp [lk]
  | (k', u) :: l1, l2, h => by
    simp only [lk] at h
    split at h
    · cases h
    · rename_i he
      simp only [List.cons_append, lk, if_neg he, lk_mid h]
theorem ins_split {k : κ} {v v' : α} : ∀ {l1 l2 : List (κ × α)}, lk l1 k = none → ins (l1 ++ (k, v) :: l2) k v' = l1 ++ (k, v') :: l2
  | [], l2, _ => by simp [ins]
  | (k', u) :: l1, l2, h => by
    simp only [lk] at h
    split at h
    · cases h
    · rename_i he
      simp only [List.cons_append, ins, if_neg he, ins_split h]
theorem del_split {k : κ} {v : α} : ∀ {l1 l2 : List (κ × α)}, lk l1 k = none → del (l1 ++ (k, v) :: l2) k = l1 ++ l2
  | [], l2, _ => by simp [del]
  | (k', u) :: l1, l2, h => by
    simp only [lk] at h
    split at h
    · cases h
    · rename_i he
      simp only [List.cons_append, del, if_neg he, del_split h]
theorem ins_new {k : κ} {v : α} : ∀ {l : List (κ × α)}, lk l k = none → ins l k v = l ++ [(k, v)]
  | [], _ => rfl
  | (k', u) :: l, h => by
    simp only [lk] at h
    split at h
    · cases h
    · rename_i he
      simp only [List.cons_append, ins, if_neg he, ins_new h]
end
def SLA (L : List HP) : HP := fun H => SL L H
theorem SL_pack {A : HP} {L : List HP} : ∀ H, SL (A :: L) H → SL [A, SLA L] H := fun H ⟨H1, H2, d, u, hA, hL⟩ => ⟨H1, H2, d, u, hA, H2, fun _ => none, fun _ => .inr rfl, fun _ => by simp, hL, trivial⟩
theorem SL_unpack {A : HP} {L : List HP} : ∀ H, SL [A, SLA L] H → SL (A :: L) H := fun H ⟨H1, H2, d, u, hA, H3, H4, d', u', hL, _⟩ => ⟨H1, H2, d, u, hA, SL.weaken (fun b o hb => by rw [u' b, hb]; rfl) hL⟩
def Star {β : Type} (f : β → HP) (M : List β) : HP := SLA (M.map f)
theorem find_mid' {β : Type} (f : β → HP) (q : β) : ∀ (M1 M2 : List β), Find ((M1 ++ q :: M2).map f) (f q) ((M1 ++ M2).map f)
  | [], M2 => .here
  | _ :: M1, M2 => .there (find_mid' f q M1 M2)
theorem Star.out {β : Type} {f : β → HP} {q : β} {M1 M2 : List β} : ∀ H, Star f (M1 ++ q :: M2) H → ∃ x : Unit, True ∧ SL [f q, Star f (M1 ++ M2)] H := fun H h => ⟨(), trivial, SL_pack H ((find_mid' f q M1 M2).fwd h)⟩
theorem Star.back {β : Type} {f : β → HP} {q : β} {M1 M2 : List β} : ∀ H, SL [f q, Star f (M1 ++ M2)] H → Star f (M1 ++ q :: M2) H := fun H h => (find_mid' f q M1 M2).bwd (SL_unpack H h)
theorem Star.add {β : Type} {f : β → HP} {q : β} {M : List β} : ∀ H, SL [f q, Star f M] H → Star f (M ++ [q]) H := fun H h => by
  have := Star.back (f := f) (q := q) (M1 := M) (M2 := []) H
  rw [List.append_nil] at this
  exact this h
theorem Star.nil {β : Type} {f : β → HP} {L : List HP} {H : PH} (h : SL L H) : SL (Star f [] :: L) H := ⟨fun _ => none, H, fun _ => .inl rfl, fun _ => by simp, trivial, h⟩
end Go.Proofs.YtamecmklcnohjaaGreat.Sep
namespace Go.Proofs.YtamecmklcnohjaaGreat.Sep
open Go.RowKit
set_option linter.unusedSimpArgs false
set_option linter.unusedVariables false
def pgV (o : Option Nat) : Value := .pointer (o.map fun b => ⟨b, 0, none⟩)
def pblk (M : List (Int × Nat × List Int)) : List (Int × Option Nat) := M.map fun q => (q.1, some q.2.1)
def pgOf (q : Int × Nat × List Int) : HP := Sl (eI .u8) (some ⟨q.2.1, 0, none⟩) 4096 q.2.2
def Pgs (M : List (Int × Nat × List Int)) : HP := Star pgOf M
theorem Pgs.nil {L : List HP} {H : PH} (h : SL L H) : SL (Pgs [] :: L) H := Star.nil h
theorem lk_pblk (M : List (Int × Nat × List Int)) (p : Int) : lk (pblk M) p = (lk M p).map fun q => some q.1 := lk_map (fun q : Nat × List Int => some q.1) p M
structure SpOk (P : Int) (m : Int → Int) (M : List (Int × Nat × List Int)) : Prop where
  mem : memOf M = m
  len : ∀ q ∈ M, 0 ≤ q.1 ∧ q.1 < P ∧ q.2.2.length = 4096
  byt : ∀ a, 0 ≤ m a ∧ m a ≤ 255
theorem SpOk.empty {P : Int} : SpOk P (fun _ => 0) [] := ⟨funext fun _ => rfl, (fun q hq => by cases hq), fun _ => ⟨Int.le_refl 0, by decide⟩⟩
def Spc (sb : Nat) (P : Int) (m : Mm) : HP := fun H => ∃ x : Nat × List (Int × Nat × List Int), SpOk P m.f x.2 ∧ SL [pt sb (.cells [.int .i64 P, .map (some x.1), .int .i64 m.t].toArray 188 (0, 0)), Mp keyV pgV x.1 (pblk x.2), Pgs x.2] H
theorem Spc.open {sb : Nat} {P : Int} {m : Mm} : ∀ H, Spc sb P m H → ∃ x : Nat × List (Int × Nat × List Int), SpOk P m.f x.2 ∧ SL [pt sb (.cells [.int .i64 P, .map (some x.1), .int .i64 m.t].toArray 188 (0, 0)), Mp keyV pgV x.1 (pblk x.2), Pgs x.2] H := fun H h => h
theorem Spc.fold {sb mb : Nat} {P t : Int} {m : Int → Int} {M : List (Int × Nat × List Int)} (h : SpOk P m M) : ∀ H, SL [pt sb (.cells [.int .i64 P, .map (some mb), .int .i64 t].toArray 188 (0, 0)), Mp keyV pgV mb (pblk M), Pgs M] H → Spc sb P ⟨m, t⟩ H := fun H hs => ⟨(mb, M), h, hs⟩
theorem Spc.byt {sb : Nat} {P : Int} {m : Mm} : ∀ H, Spc sb P m H → ∀ a, 0 ≤ m.f a ∧ m.f a ≤ 255 := fun H ⟨_, h, _⟩ => h.byt
set_option maxHeartbeats 8000000
attribute [local irreducible] X XE XO XD XDi XDa PV RV DV pt base Spec Sl Mp Keeps Pgs Spc
theorem snew_spec (p : Int) : Spec Tryz.prog 56 [.int .i64 p] [] (fun v L => ∃ b, v = .pointer (some ⟨b, 0, none⟩) ∧ L = [Spc b (min (max p 1) 1048576) ⟨fun _ => 0, 0⟩]) := by
  refine Spec.intro (IsEnt.out) Tryz.func56 rfl Tryz.ntmps56 (by simp) (fun w0 F => ?_)
  simp only [envOf, List.zipIdx, List.map, List.cons_append, List.nil_append, Nat.zero_add, Nat.reduceAdd]
  (repeat refine Z ?_)
  refine XO_dv (dv_makeMap keyV pgV) (hk := ?_)
  rintro _ _ ⟨mb, rfl, rfl⟩
  (repeat refine Z ?_)
  refine XO_pv (pv_buildG [.int .i64 (min (max p 1) 1048576), .map (some mb), .int .i64 0]) (hk := ?_)
  (repeat refine Z ?_)
  refine XO_dv dv_box (hk := ?_)
  rintro _ _ ⟨sb, rfl, rfl⟩
  (repeat refine Z ?_)
  refine XE_conv (fun _ => Pgs.nil) ?_
  refine XE_fold (by exact FAs) (Spc.fold (sb := sb) (mb := mb) (P := min (max p 1) 1048576) (t := 0) (M := []) (m := fun _ => 0) SpOk.empty) ?_
  refine XE_ret (.inl rfl) (tells_tmps rfl rfl) ⟨_, ⟨sb, rfl, rfl⟩, ?_⟩
  exact EN
theorem spages_spec (sb : Nat) (P : Int) (m : Mm) : Spec Tryz.prog 47 [.pointer (some ⟨sb, 0, none⟩)] [Spc sb P m] (fun v L => v = .int .i64 P ∧ L = [Spc sb P m]) := by
  refine Spec.intro (IsEnt.out) Tryz.func47 rfl Tryz.ntmps47 (by simp) (fun w0 F => ?_)
  simp only [envOf, List.zipIdx, List.map, List.cons_append, List.nil_append, Nat.zero_add, Nat.reduceAdd]
  (repeat refine Z ?_)
  refine X_cond rfl (fun h => by cases h) (fun _ => ?_)
  refine X_open .here Spc.open ?_
  rintro ⟨mb, M⟩ hM
  dsimp only [List.cons_append, List.nil_append] at hM ⊢
  (repeat refine Z ?_)
  refine XE_fold (by exact FAs) (Spc.fold hM) ?_
  refine XE_ret (.inl rfl) (tells_tmps rfl rfl) ⟨_, ⟨rfl, rfl⟩, by exact EN⟩
theorem ssize_spec (sb : Nat) (P : Int) (m : Mm) (h0 : 0 ≤ P) (h1 : P ≤ 1048576) : Spec Tryz.prog 164 [.pointer (some ⟨sb, 0, none⟩)] [Spc sb P m] (fun v L => v = .int .u64 (P * 4096) ∧ L = [Spc sb P m]) := by
  refine Spec.intro (IsEnt.out) Tryz.func164 rfl Tryz.ntmps164 (by simp) (fun w0 F => ?_)
  simp only [envOf, List.zipIdx, List.map, List.cons_append, List.nil_append, Nat.zero_add, Nat.reduceAdd]
  (repeat refine Z ?_)
  refine XO_call (spages_spec sb P m) (hk := ?_)
  rintro _ _ ⟨rfl, rfl⟩
  (repeat refine Z ?_)
  refine XE_ret (.inl rfl) (tells_tmps rfl rfl) ⟨_, ⟨rfl, rfl⟩, by exact EN⟩
theorem in_spec (at_ n size : Int) (h0 : 0 ≤ at_) (h1 : at_ ≤ 18446744073709551615) (h2 : 0 ≤ n) (h3 : n ≤ 18446744073709551615) (h4 : 0 ≤ size) (h5 : size ≤ 18446744073709551615) : Spec Tryz.prog 154 [.int .u64 at_, .int .u64 n, .int .u64 size] [] (fun v L => v = .bool (decide (at_ + n ≤ size)) ∧ L = []) := by
  refine Spec.intro (IsEnt.out) Tryz.func154 rfl Tryz.ntmps154 (by simp) (fun w0 F => ?_)
  simp only [envOf, List.zipIdx, List.map, List.cons_append, List.nil_append, Nat.zero_add, Nat.reduceAdd]
  (repeat refine Z ?_)
  refine XO_either (hT := fun h => ?_) (hF := fun h => ?_) <;> simp only [decide_eq_true_eq, decide_eq_false_iff_not] at h
  · (repeat refine Z ?_)
    refine XE_ret (.inl rfl) (tells_tmps rfl rfl) ⟨_, ⟨?_, rfl⟩, by exact EN⟩
    exact congrArg Value.bool (decide_eq_decide.2 (by omega))
  · (repeat refine Z ?_)
    refine XE_ret (.inl rfl) (tells_tmps rfl rfl) ⟨_, ⟨?_, rfl⟩, by exact EN⟩
    exact congrArg Value.bool (decide_eq_false (by omega)).symm
def fitsI (P at_ n most : Int) : Int := if at_ + n ≤ P * 4096 then (if most < n then 1 else 0) else 3
theorem fits_spec (sb : Nat) (P : Int) (m : Mm) (at_ n most : Int) (hP0 : 0 ≤ P) (hP1 : P ≤ 1048576) (h0 : 0 ≤ at_) (h1 : at_ ≤ 18446744073709551615) (h2 : 0 ≤ n) (h3 : n ≤ 18446744073709551615) :
    Spec Tryz.prog 121 [.pointer (some ⟨sb, 0, none⟩), .int .u64 at_, .int .u64 n, .int .u64 most] [Spc sb P m] (fun v L => v = .int .i64 (fitsI P at_ n most) ∧ L = [Spc sb P m]) := by
  refine Spec.intro (IsEnt.out) Tryz.func121 rfl Tryz.ntmps121 (by simp) (fun w0 F => ?_)
  simp only [envOf, List.zipIdx, List.map, List.cons_append, List.nil_append, Nat.zero_add, Nat.reduceAdd]
  (repeat refine Z ?_)
  refine XO_call (ssize_spec sb P m hP0 hP1) (hk := ?_)
  rintro _ _ ⟨rfl, rfl⟩
  (repeat refine Z ?_)
  refine XO_call (in_spec at_ n (P * 4096) h0 h1 h2 h3 (by omega) (by omega)) (hk := ?_)
  rintro _ _ ⟨rfl, rfl⟩
  (repeat refine Z ?_)
  unfold fitsI
  refine X_cond rfl (fun h => ?_) (fun h => ?_) <;> simp at h
  · (repeat refine Z ?_)
    rw [if_neg (by omega)]
    refine XE_ret (.inl rfl) (tells_tmps rfl rfl) ⟨_, ⟨rfl, rfl⟩, by exact EN⟩
  · rw [if_pos (by omega)]
    (repeat refine Z ?_)
    refine X_cond rfl (fun h => ?_) (fun h => ?_) <;> simp only [decide_eq_true_eq, decide_eq_false_iff_not] at h
    · (repeat refine Z ?_)
      rw [if_pos (by omega)]
      refine XE_ret (.inl rfl) (tells_tmps rfl rfl) ⟨_, ⟨rfl, rfl⟩, by exact EN⟩
    · (repeat refine Z ?_)
      rw [if_neg (by omega)]
      refine XE_ret (.inl rfl) (tells_tmps rfl rfl) ⟨_, ⟨rfl, rfl⟩, by exact EN⟩
theorem touched_spec (at_ n : Int) (h0 : 0 ≤ at_) (h2 : 0 ≤ n) (h1 : at_ + n ≤ 4294967296) : Spec Tryz.prog 122 [.int .u64 at_, .int .u64 n] [] (fun v L => v = .int .i64 (touchI at_ n) ∧ L = []) := by
  refine Spec.intro (IsEnt.out) Tryz.func122 rfl Tryz.ntmps122 (by simp) (fun w0 F => ?_)
  simp only [envOf, List.zipIdx, List.map, List.cons_append, List.nil_append, Nat.zero_add, Nat.reduceAdd]
  (repeat refine Z ?_)
  refine X_cond rfl (fun h => ?_) (fun h => ?_) <;> simp at h
  · (repeat refine Z ?_)
    refine XE_ret (.inl rfl) (tells_tmps rfl rfl) ⟨_, ⟨?_, rfl⟩, by exact EN⟩
    unfold touchI
    rw [if_pos (by omega)]
    rfl
  · (repeat refine Z ?_)
    refine XE_ret (.inl rfl) (tells_tmps rfl rfl) ⟨_, ⟨?_, rfl⟩, by exact EN⟩
    unfold touchI
    rw [if_neg (by omega)]
    rfl
def stepI (at_ n f : Int) : Int := min (n - f) (4096 - (at_ + f) % 4096)
theorem and4095 {a : Int} (h0 : 0 ≤ a) (h1 : a < 18446744073709551616) : bitop .and .u64 a 4095 = a % 4096 := by
  obtain ⟨k, rfl⟩ : ∃ k : Nat, a = (k : Int) := ⟨a.toNat, by omega⟩
  have := bitop_and_u64 (a := k) (b := 4095) (by omega) (by decide)
  rw [show ((4095 : Nat) : Int) = 4095 from rfl] at this
  rw [this, show (4095 : Nat) = 2 ^ 12 - 1 from rfl, and_mask]
  simp
theorem findAll_app : ∀ L R : List HP, FindAll (L ++ R) L R
  | [], R => .nil
  | A :: L, R => .cons .here (findAll_app L R)
theorem each_spec (I : Int → List HP) (fn : FuncId) (cap : List Value) (at_ n : Int) (h0 : 0 ≤ at_) (hn : 0 ≤ n) (h1 : at_ + n ≤ 4294967296)
    (h : ∀ f : Int, 0 ≤ f → f < n → Spec Tryz.prog fn ([.int .u64 ((at_ + f) / 4096), .int .u64 ((at_ + f) % 4096), .int .u64 (stepI at_ n f), .int .u64 f] ++ cap) (I f) (fun _ L => L = I (f + stepI at_ n f))) :
    Spec Tryz.prog 178 [.int .u64 at_, .int .u64 n, .func (.func fn) #[] cap.toArray] (I 0) (fun _ L => L = I n) := by
  refine Spec.intro (IsEnt.out) Tryz.func178 rfl Tryz.ntmps178 (by simp) (fun w0 F => ?_)
  simp only [envOf, List.zipIdx, List.map, List.cons_append, List.nil_append, Nat.zero_add, Nat.reduceAdd]
  (repeat refine Z ?_)
  refine X_loop (ι := Nat) (fun f => (f : Int) ≤ n) (fun f => [(0, .int .u64 at_), (1, .int .u64 n), (2, .func (.func fn) #[] cap.toArray), (6, .int .u64 (f : Int))]) (fun f => I f ++ F) (fun f => n.toNat - f) 0 (by simpa using hn) ?_ (fun _ h => h) ?_
  · exact SBs
  intro f hf
  dsimp only at hf ⊢
  (repeat refine Z ?_)
  refine X_cond rfl (fun hc => ?_) (fun hc => ?_) <;> simp only [decide_eq_true_eq, decide_eq_false_iff_not] at hc
  · have e1 := and4095 (a := at_ + f) (by omega) (by omega)
    (repeat refine Z ?_)
    refine XO_reval 27 (.int .u64 ((at_ + f) % 4096)) (hv := by rw [e1]) (hk := ?_)
    have e2 : min (n - (f : Int)) (4096 - bitop .and .u64 (at_ + f) 4095) = stepI at_ n f := by rw [e1]; rfl
    refine XO_reval 28 (.int .u64 (stepI at_ n f)) (hv := by rw [e2]) (hk := ?_)
    refine XO_reval 8 (.int .u64 (stepI at_ n f)) (hv := by rw [e2]) (hk := ?_)
    have hs : 1 ≤ stepI at_ n f ∧ f + stepI at_ n f ≤ n := by unfold stepI; omega
    have hh := h f (by omega) hc
    generalize stepI at_ n f = st at hs hh ⊢
    refine XO_call hh (hf := findAll_app _ _) (hk := ?_)
    rintro _ _ rfl
    obtain ⟨f', hf'⟩ : ∃ f' : Nat, (f' : Int) = f + st := ⟨(f + st).toNat, by omega⟩
    (repeat refine Z ?_)
    rw [← hf']
    exact X_round f' (by show (f' : Int) ≤ n; omega) (by show n.toNat - f' < n.toNat - f; omega) (by exact SBs) (fun _ h => h)
  · obtain rfl : (f : Int) = n := by omega
    (repeat refine Z ?_)
    exact XE_ret (.inr rfl) (tells_tmps rfl rfl) ⟨_, rfl, fun _ h => h⟩
end Go.Proofs.YtamecmklcnohjaaGreat.Sep
namespace Go.Proofs.YtamecmklcnohjaaGreat.Sep
open Go.RowKit
set_option linter.unusedSimpArgs false
set_option linter.unusedVariables false
theorem Pgs.out {q : Int × Nat × List Int} {M1 M2 : List (Int × Nat × List Int)} : ∀ H, Pgs (M1 ++ q :: M2) H → ∃ x : Unit, True ∧ SL [Sl (eI .u8) (some ⟨q.2.1, 0, none⟩) 4096 q.2.2, Pgs (M1 ++ M2)] H := Star.out
theorem Pgs.back {p : Int} {b : Nat} {xs : List Int} {M1 M2 : List (Int × Nat × List Int)} : ∀ H, SL [Sl (eI .u8) (some ⟨b, 0, none⟩) 4096 xs, Pgs (M1 ++ M2)] H → Pgs (M1 ++ (p, b, xs) :: M2) H := Star.back (f := pgOf) (q := (p, b, xs))
theorem Pgs.add {p : Int} {b : Nat} {xs : List Int} {M : List (Int × Nat × List Int)} : ∀ H, SL [Sl (eI .u8) (some ⟨b, 0, none⟩) 4096 xs, Pgs M] H → Pgs (M ++ [(p, b, xs)]) H := Star.add (f := pgOf) (q := (p, b, xs))
theorem subA_lt {b i c : Nat} (h : i < c) : subA (some ⟨b, 0, none⟩) i c 1 = some ⟨b, 0 + i * 1, none⟩ := by
  have : ¬ c = i := by omega
  simp only [subA, this, if_false, Option.map_some]
  congr 1
  unfold Addr.add
  split <;> simp_all
set_option maxHeartbeats 8000000
attribute [local irreducible] X XE XO XD XDi XDa PV RV DV pt base Spec Sl Mp Keeps Pgs Spc
theorem wrap_u16_eq (x : Int) : IntKind.u16.wrap x = x % 65536 := by
  simp [IntKind.wrap, IntKind.bits, IntKind.signed]
theorem keyOf_spec (p : Int) (h0 : 0 ≤ p) (h1 : p < 1048576) : Spec Tryz.prog 180 [.int .u64 p] [] (fun v L => v = keyV p ∧ L = []) := by
  refine Spec.intro (IsEnt.out) Tryz.func180 rfl Tryz.ntmps180 (by simp) (fun w0 F => ?_)
  simp only [envOf, List.zipIdx, List.map, List.cons_append, List.nil_append, Nat.zero_add, Nat.reduceAdd]
  (repeat refine Z ?_)
  refine XO_dv (dv_alloc (row := [.int .u16 0, .int .u16 0])) (hk := ?_)
  rintro _ _ ⟨cb, rfl, rfl⟩
  (repeat refine Z ?_)
  refine XO_pv pv_shrN (hk := ?_)
  refine XO_reval 4 (.int .u64 (p / 65536)) (hv := rfl) (hk := ?_)
  refine XO_pv (pv_conv_int (hw := rfl)) (hk := ?_)
  refine XO_reval 5 (.int .u16 (p / 65536)) (hv := by rw [wrap_u16_eq]; exact congrArg (Value.int .u16) (by omega)) (hk := ?_)
  (repeat refine Z ?_)
  refine XO_reval 7 (.int .u16 (p % 65536)) (hv := by rw [wrap_u16_eq]) (hk := ?_)
  refine XO_pv (pv_buildArr [.int .u16 (p / 65536), .int .u16 (p % 65536)]) (hk := ?_)
  refine XO_dv0 dv_storeW (hk := ?_)
  rintro _ _ rfl
  (repeat refine Z ?_)
  refine XE_ret (.inl rfl) (tells_cell rfl) ⟨_, ⟨rfl, rfl⟩, ?_⟩
  exact EN
theorem zero4096 : (Tryz.t293.zero.getD undef).cells = (List.replicate 4096 (Value.int .u8 0)).toArray := by
  kernel_rfl
def outB (m : Int → Int) (at_ : Int) (N : Nat) (f : Int) : List Int := rdM m at_ f.toNat ++ List.replicate (N - f.toNat) 0
theorem outB_len {m : Int → Int} {at_ f : Int} {N : Nat} (h : f ≤ N) : (outB m at_ N f).length = N := by simp [outB, rdM_len]; omega
theorem outB_step {m : Int → Int} {at_ f k : Int} {N : Nat} (h0 : 0 ≤ f) (hk : 0 ≤ k) (h : f + k ≤ N) : cutIn (outB m at_ N f) f.toNat (rdM m (at_ + f) k.toNat) = outB m at_ N (f + k) := by
  have e : (rdM m at_ f.toNat).length = f.toNat := rdM_len _ _ _
  have := cut_zeros (p := rdM m at_ f.toNat) (q := rdM m (at_ + f) k.toNat) (r := N - f.toNat) (by rw [rdM_len]; omega)
  rw [e] at this
  unfold outB
  rw [this, show (f + k).toNat = f.toNat + k.toNat from by omega, rd_app, rdM_len, show ((f.toNat : Nat) : Int) = f from by omega, show N - f.toNat - k.toNat = N - (f.toNat + k.toNat) from by omega]
def ldI (sb sc oc ob N : Nat) (P : Int) (m : Mm) (at_ : Int) (f : Int) : List HP :=
  [Spc sb P m, pt sc (.cells [.pointer (some ⟨sb, 0, none⟩)].toArray 82 (0, 0)), pt oc (.cells [.slice (some ⟨ob, 0, none⟩) N N].toArray 56 (0, 0)), Sl (eI .u8) (some ⟨ob, 0, none⟩) N (outB m.f at_ N f)]
theorem load1_spec (sb sc oc ob N : Nat) (P : Int) (m : Mm) (at_ f : Int) (hP : P ≤ 1048576) (h0 : 0 ≤ at_) (h1 : at_ + N ≤ P * 4096) (f0 : 0 ≤ f) (f1 : f < N) :
    Spec Tryz.prog 179 ([.int .u64 ((at_ + f) / 4096), .int .u64 ((at_ + f) % 4096), .int .u64 (stepI at_ N f), .int .u64 f] ++ [.pointer (some ⟨sc, 0, none⟩), .pointer (some ⟨oc, 0, none⟩)])
      (ldI sb sc oc ob N P m at_ f) (fun _ L => L = ldI sb sc oc ob N P m at_ (f + stepI at_ N f)) := by
  unfold ldI
  refine Spec.intro (IsEnt.out) Tryz.func179 rfl Tryz.ntmps179 (by simp) (fun w0 F => ?_)
  simp only [envOf, List.zipIdx, List.map, List.cons_append, List.nil_append, Nat.zero_add, Nat.reduceAdd]
  obtain ⟨p, hp⟩ : ∃ p, p = (at_ + f) / 4096 := ⟨_, rfl⟩
  obtain ⟨i, hi⟩ : ∃ i, i = (at_ + f) % 4096 := ⟨_, rfl⟩
  have hs : 1 ≤ stepI at_ N f ∧ f + stepI at_ N f ≤ N ∧ i + stepI at_ N f ≤ 4096 := by unfold stepI; omega
  rw [← hp, ← hi]
  generalize stepI at_ N f = k at hs ⊢
  refine X_open .here Spc.open ?_
  rintro ⟨mb, M⟩ hM
  dsimp only [List.cons_append, List.nil_append] at hM ⊢
  (repeat refine Z ?_)
  (repeat refine ZD ?_)
  refine XD_one (h := ?_)
  refine XDa_dvA (dv_call (keyOf_spec p (by omega) (by omega))) (hk := ?_)
  (rintro _ _ ⟨_, ⟨rfl, rfl⟩, rfl⟩; refine ⟨by exact KP, ?_⟩)
  (repeat refine ZD ?_)
  refine Dr (rv_lookup (ke := keyV) (ve := pgV) p none (ht := tk_page)) ?_
  (repeat refine ZD ?_)
  rw [lk_pblk]
  have hmem := hM.mem
  cases hlk : lk M p with
  | none =>
    simp only [Option.map_none, Option.getD_none]
    (refine XD_one (h := ?_); refine XDa_dvA (dv_of_rv (rv_of_pv pv_assign)) (hk := ?_); rintro _ _ ⟨rfl, rfl⟩; refine ⟨by exact KP, ?_⟩)
    (refine XD_end (h := ?_); (repeat refine Z ?_))
    refine X_cond rfl (fun h => by cases h) (fun _ => ?_)
    (repeat refine Z ?_)
    have e1 : rdM m.f (at_ + f) k.toNat = List.replicate k.toNat 0 := by
      rw [← hmem, show at_ + f = p * 4096 + ((i.toNat : Nat) : Int) from by omega]
      exact rd_none hlk (by omega)
    have e2 : outB m.f at_ N (f + k) = outB m.f at_ N f := by
      rw [outB, show (f + k).toNat = f.toNat + k.toNat from by omega, rd_app, show ((f.toNat : Nat) : Int) = f from by omega, e1, List.append_assoc, List.replicate_append_replicate, outB, show k.toNat + (N - (f.toNat + k.toNat)) = N - f.toNat from by omega]
    refine XE_ret (.inr rfl) (tells_tmps rfl rfl) ⟨_, rfl, ?_⟩
    rw [e2]
    refine ent_fold (by exact FAs) (Spc.fold hM) ?_
    exact EN
  | some q =>
    obtain ⟨b, ys⟩ := q
    simp only [Option.map_some, Option.getD_some]
    (refine XD_one (h := ?_); refine XDa_dvA (dv_of_rv (rv_of_pv pv_assign)) (hk := ?_); rintro _ _ ⟨rfl, rfl⟩; refine ⟨by exact KP, ?_⟩)
    (refine XD_end (h := ?_); (repeat refine Z ?_))
    refine X_cond rfl (fun _ => ?_) (fun h => by cases h)
    obtain ⟨M1, M2, rfl, hn⟩ := lk_split hlk
    have hyl : ys.length = 4096 := (hM.len (p, b, ys) (by simp)).2.2
    refine X_open (A := Pgs (M1 ++ (p, b, ys) :: M2)) (by exact FDs) Pgs.out ?_
    rintro ⟨⟩ -
    dsimp only [List.cons_append, List.nil_append]
    (repeat refine Z ?_)
    (repeat refine ZD ?_)
    refine Dp pv_sliceLH ?_
    (repeat refine ZD ?_)
    refine Dp pv_sliceArrL ?_
    (repeat refine ZD ?_)
    have hxl : (outB m.f at_ N f).length = N := outB_len (by omega)
    have e1 : rdM m.f (at_ + f) k.toNat = (ys.drop i.toNat).take k.toNat := by
      rw [← hmem, show at_ + f = p * 4096 + ((i.toNat : Nat) : Int) from by omega]
      exact rd_page hlk hyl (by omega)
    refine XD_one (h := ?_)
    refine XDa_dvA (dv_copyAt (E' := eI .u8) (i := f.toNat) (s := 1) (o := 0) (b := ob) (c := N) (m := 4096 - i.toNat) (m1 := (f + k).toNat - f.toNat) (a2 := some ⟨b, i.toNat, none⟩) (xs := outB m.f at_ N f) (ys := (ys.drop i.toNat).take k.toNat) (A := Sl (eI .u8) (some ⟨b, 0, none⟩) 4096 ys)
      (hx := by show some (Value.slice (subA (some ⟨ob, 0, none⟩) f.toNat N 1) ((f + k).toNat - f.toNat) (N - f.toNat)) = _; rw [subA_lt (by omega)])
      (hy := by show some (Value.slice (subA (some ⟨b, 0, none⟩) i.toNat 4096 1) (4096 - i.toNat) (4096 - i.toNat)) = _; rw [subA_lt (by omega), Nat.zero_add, Nat.mul_one])
      (hv := (view_at i.toNat Sl.view).take k.toNat) (hn := by simp; omega) (hm1 := by rw [hxl]; omega)) (hk := ?_)
    rintro _ _ ⟨rfl, rfl⟩
    refine ⟨by exact KP, ?_⟩
    (refine XD_end (h := ?_); (repeat refine Z ?_))
    have e3 := outB_step (m := m.f) (at_ := at_) (f := f) (k := k) (N := N) f0 (by omega) (by omega)
    rw [e1] at e3
    refine XE_fold (by exact FAs) (Pgs.back (p := p)) ?_
    refine XE_fold (by exact FAs) (Spc.fold hM) ?_
    refine XE_ret (.inr rfl) (tells_tmps rfl rfl) ⟨_, rfl, ?_⟩
    rw [← e3]
    exact EN
end Go.Proofs.YtamecmklcnohjaaGreat.Sep
namespace Go.Proofs.YtamecmklcnohjaaGreat.Sep
open Go.RowKit
set_option linter.unusedSimpArgs false
set_option linter.unusedVariables false
set_option maxHeartbeats 8000000
attribute [local irreducible] X XE XO XD XDi XDa PV RV DV pt base Spec Sl Mp Keeps Pgs Spc
theorem outB_zero (m : Int → Int) (at_ : Int) (N : Nat) : outB m at_ N 0 = List.replicate N 0 := by simp [outB, rdM]
theorem outB_all (m : Int → Int) (at_ : Int) (N : Nat) : outB m at_ N (N : Int) = rdM m at_ N := by simp [outB]
theorem sload_spec (sb : Nat) (P : Int) (m : Mm) (at_ : Int) (N : Nat) (hP : P ≤ 1048576) (h0 : 0 ≤ at_) (h1 : at_ + N ≤ P * 4096) :
    Spec Tryz.prog 155 [.pointer (some ⟨sb, 0, none⟩), .int .u64 at_, .int .u64 N] [Spc sb P m] (fun v L => ∃ ob, v = .slice (some ⟨ob, 0, none⟩) N N ∧ L = [Spc sb P m, Sl (eI .u8) (some ⟨ob, 0, none⟩) N (rdM m.f at_ N)]) := by
  refine Spec.intro (IsEnt.out) Tryz.func155 rfl Tryz.ntmps155 (by simp) (fun w0 F => ?_)
  simp only [envOf, List.zipIdx, List.map, List.cons_append, List.nil_append, Nat.zero_add, Nat.reduceAdd]
  (repeat refine Z ?_)
  refine XO_dv dv_box1 (hk := ?_)
  rintro _ _ ⟨sc, rfl, rfl⟩
  (repeat refine Z ?_)
  refine XO_dv (dv_makeSlice (E' := eI .u8) 0) (hk := ?_)
  rintro _ _ ⟨ob, rfl, rfl⟩
  simp only [Int.toNat_natCast]
  refine XO_dv (dv_alloc (row := [.slice none 0 0])) (hk := ?_)
  rintro _ _ ⟨oc, rfl, rfl⟩
  (repeat refine Z ?_)
  refine XO_dv0 (dv_store (row' := [.slice (some ⟨ob, 0, none⟩) N N])) (hk := ?_)
  rintro _ _ rfl
  (repeat refine Z ?_)
  rw [← outB_zero m.f at_ N]
  refine XO_call (each_spec (ldI sb sc oc ob N P m at_) 179 [.pointer (some ⟨sc, 0, none⟩), .pointer (some ⟨oc, 0, none⟩)] at_ N h0 (by omega) (by omega) (fun f f0 f1 => load1_spec sb sc oc ob N P m at_ f hP h0 h1 f0 f1)) (hf := by unfold ldI; exact FAs) (hk := ?_)
  rintro _ _ rfl
  unfold ldI
  rw [outB_all]
  dsimp only [List.cons_append, List.nil_append]
  (repeat refine Z ?_)
  refine XE_ret (.inl rfl) (tells_tmps rfl rfl) ⟨_, ⟨ob, rfl, rfl⟩, ?_⟩
  exact EN
def loadV (sb : Nat) (P : Int) (m : Mm) (at_ n : Int) : Value → List HP → Prop :=
  if fitsI P at_ n 1048576 = 0 then fun v L => ∃ ob, v = .tuple #[.slice (some ⟨ob, 0, none⟩) n.toNat n.toNat, .int .i64 0] ∧ L = [Spc sb P (ldM m at_ n), Sl (eI .u8) (some ⟨ob, 0, none⟩) n.toNat (rdM m.f at_ n.toNat)]
  else fun v L => v = .tuple #[.slice none 0 0, .int .i64 (fitsI P at_ n 1048576)] ∧ L = [Spc sb P m]
theorem Load_spec (sb : Nat) (P : Int) (m : Mm) (at_ n : Int) (hP0 : 0 ≤ P) (hP : P ≤ 1048576) (h0 : 0 ≤ at_) (h1 : at_ ≤ 18446744073709551615) (h2 : 0 ≤ n) (h3 : n ≤ 18446744073709551615) :
    Spec Tryz.prog 108 [.pointer (some ⟨sb, 0, none⟩), .int .u64 at_, .int .u64 n] [Spc sb P m] (loadV sb P m at_ n) := by
  refine Spec.intro (IsEnt.out) Tryz.func108 rfl Tryz.ntmps108 (by simp) (fun w0 F => ?_)
  simp only [envOf, List.zipIdx, List.map, List.cons_append, List.nil_append, Nat.zero_add, Nat.reduceAdd]
  (repeat refine Z ?_)
  refine XO_call (fits_spec sb P m at_ n 1048576 hP0 hP h0 h1 h2 h3) (hk := ?_)
  rintro _ _ ⟨rfl, rfl⟩
  (repeat refine Z ?_)
  refine X_cond rfl (fun h => ?_) (fun h => ?_) <;> simp at h
  · (repeat refine Z ?_)
    have hv : loadV sb P m at_ n = fun v L => v = .tuple #[.slice none 0 0, .int .i64 (fitsI P at_ n 1048576)] ∧ L = [Spc sb P m] := by unfold loadV; rw [if_neg h]
    rw [hv]
    refine XE_ret (.inl rfl) (tells_tmps rfl rfl) ⟨_, ⟨rfl, rfl⟩, by exact EN⟩
  have hv : loadV sb P m at_ n = fun v L => ∃ ob, v = .tuple #[.slice (some ⟨ob, 0, none⟩) n.toNat n.toNat, .int .i64 0] ∧ L = [Spc sb P (ldM m at_ n), Sl (eI .u8) (some ⟨ob, 0, none⟩) n.toNat (rdM m.f at_ n.toNat)] := by unfold loadV; rw [if_pos h]
  rw [hv]
  have hf : at_ + n ≤ P * 4096 ∧ n ≤ 1048576 := by
    unfold fitsI at h
    split at h
    · split at h
      · cases h
      · omega
    · cases h
  refine X_open .here Spc.open ?_
  rintro ⟨mb, M⟩ hM
  dsimp only [List.cons_append, List.nil_append] at hM ⊢
  (repeat refine Z ?_)
  (repeat refine ZD ?_)
  refine XD_one (h := ?_)
  refine XDa_dvA (dv_call (touched_spec at_ n h0 h2 (by omega))) (hk := ?_)
  (rintro _ _ ⟨_, ⟨rfl, rfl⟩, rfl⟩; refine ⟨by exact KP, ?_⟩)
  (repeat refine ZD ?_)
  refine XD_one (h := ?_)
  refine XDa_dvk0 dv_store (K := _) (hk := ?_)
  rintro _ _ rfl
  refine ⟨by exact KP, ?_⟩
  (refine XD_end (h := ?_); (repeat refine Z ?_))
  obtain ⟨N, rfl⟩ : ∃ N : Nat, n = (N : Int) := ⟨n.toNat, by omega⟩
  simp only [Int.toNat_natCast]
  refine XO_fold (by exact FAs) (Spc.fold hM) ?_
  refine XO_call (sload_spec sb P (ldM m at_ N) at_ N hP h0 hf.1) (hk := ?_)
  rintro _ _ ⟨ob, rfl, rfl⟩
  (repeat refine Z ?_)
  refine XE_ret (.inl rfl) (tells_tmps rfl rfl) ⟨_, ⟨ob, rfl, rfl⟩, ?_⟩
  exact EN
end Go.Proofs.YtamecmklcnohjaaGreat.Sep
namespace Go.Proofs.YtamecmklcnohjaaGreat.Sep
open Go.RowKit
set_option linter.unusedSimpArgs false
set_option linter.unusedVariables false
theorem newPage {nb : Nat} {T : TypeId} : ∀ H, SL [pt nb (.cells (List.replicate 4096 (Value.int .u8 0)).toArray T (0, 0))] H → Sl (eI .u8) (some ⟨nb, 0, none⟩) 4096 (List.replicate 4096 0) H := fun H ⟨H1, H2, d, u, hA, _⟩ => by
  have h : pt nb (.cells (List.replicate 4096 (Value.int .u8 0)).toArray T (0, 0)) H := by
    have hA' : H1 nb = some (.cells (List.replicate 4096 (Value.int .u8 0)).toArray T (0, 0)) := hA
    show H nb = _
    rw [u nb, hA']; rfl
  have := Sl.of_pt (E' := eI .u8) (xs := List.replicate 4096 (0 : Int)) (vs := List.replicate 4096 (Value.int .u8 0)) (by rw [flat_eI, List.map_replicate]) H h
  rwa [List.length_replicate] at this
theorem ins_pblk {M : List (Int × Nat × List Int)} {p : Int} {b : Nat} {xs : List Int} (h : lk M p = none) : ins (pblk M) p (some b) = pblk (M ++ [(p, b, xs)]) := by
  rw [ins_new (by rw [lk_pblk, h]; rfl)]; simp [pblk]
theorem byt_wr {m : Int → Int} {at_ : Int} {bs : List Int} (h : ∀ a, 0 ≤ m a ∧ m a ≤ 255) (hb : Byt bs) : ∀ a, 0 ≤ wrM m at_ bs a ∧ wrM m at_ bs a ≤ 255 := fun a => by
  unfold wrM
  split
  · rename_i hc
    have hl : (a - at_).toNat < bs.length := by omega
    have := hb bs[(a - at_).toNat] (List.getElem_mem hl)
    simpa [List.getD, hl] using this
  · exact h a
theorem SpOk.add {P : Int} {m : Int → Int} {M : List (Int × Nat × List Int)} {p : Int} {b : Nat} (h : SpOk P m M) (hp : 0 ≤ p ∧ p < P) (hn : lk M p = none) : SpOk P m (M ++ [(p, b, List.replicate 4096 0)]) := by
  refine ⟨?_, fun q hq => ?_, h.byt⟩
  · rw [← h.mem, ← ins_new hn]
    funext a
    exact memOf_new hn a
  · rcases List.mem_append.1 hq with hq | hq
    · exact h.len q hq
    · simp only [List.mem_singleton] at hq; subst hq; exact ⟨hp.1, hp.2, List.length_replicate⟩
theorem SpOk.put {P : Int} {m : Int → Int} {M1 M2 : List (Int × Nat × List Int)} {p : Int} {b i : Nat} {xs bs : List Int} (h : SpOk P m (M1 ++ (p, b, xs) :: M2)) (hn : lk M1 p = none) (hi : i + bs.length ≤ 4096) (hb : Byt bs) :
    SpOk P (wrM m (p * 4096 + i) bs) (M1 ++ (p, b, cutIn xs i bs) :: M2) := by
  have hx := h.len (p, b, xs) (by simp)
  have hlk : lk (M1 ++ (p, b, xs) :: M2) p = some (b, xs) := lk_mid hn
  refine ⟨?_, fun q hq => ?_, byt_wr h.byt hb⟩
  · rw [← h.mem, ← ins_split (v := (b, xs)) hn]
    funext a
    exact memOf_put hlk hx.2.2 hi a
  · rcases List.mem_append.1 hq with hq | hq
    · exact h.len q (by simp [hq])
    · rcases List.mem_cons.1 hq with rfl | hq
      · exact ⟨hx.1, hx.2.1, by rw [cutIn_len (by rw [hx.2.2]; exact hi)]; exact hx.2.2⟩
      · exact h.len q (by simp [hq])
def stI (A : HP) (sb sc bc N c : Nat) (a : Option Addr) (P : Int) (m : Mm) (at_ : Int) (bs : List Int) (f : Int) : List HP :=
  [Spc sb P ⟨wrM m.f at_ (bs.take f.toNat), m.t⟩, pt sc (.cells [.pointer (some ⟨sb, 0, none⟩)].toArray 82 (0, 0)), pt bc (.cells [.slice a N c].toArray 56 (0, 0)), A]
set_option maxHeartbeats 8000000
attribute [local irreducible] X XE XO XD XDi XDa PV RV DV pt base Spec Sl Mp Keeps Pgs Spc
theorem store1_spec (A : HP) (sb sc bc c : Nat) (a : Option Addr) (P : Int) (m : Mm) (at_ f : Int) (bs : List Int) (hV : View A (eI .u8) a bs) (hB : Byt bs) (hc : bs.length ≤ c) (hP : P ≤ 1048576) (h0 : 0 ≤ at_) (h1 : at_ + bs.length ≤ P * 4096) (f0 : 0 ≤ f) (f1 : f < bs.length) :
    Spec Tryz.prog 181 ([.int .u64 ((at_ + f) / 4096), .int .u64 ((at_ + f) % 4096), .int .u64 (stepI at_ bs.length f), .int .u64 f] ++ [.pointer (some ⟨sc, 0, none⟩), .pointer (some ⟨bc, 0, none⟩)])
      (stI A sb sc bc bs.length c a P m at_ bs f) (fun _ L => L = stI A sb sc bc bs.length c a P m at_ bs (f + stepI at_ bs.length f)) := by
  unfold stI
  refine Spec.intro (IsEnt.out) Tryz.func181 rfl Tryz.ntmps181 (by simp) (fun w0 F => ?_)
  simp only [envOf, List.zipIdx, List.map, List.cons_append, List.nil_append, Nat.zero_add, Nat.reduceAdd]
  obtain ⟨p, hp⟩ : ∃ p, p = (at_ + f) / 4096 := ⟨_, rfl⟩
  obtain ⟨i, hi⟩ : ∃ i, i = (at_ + f) % 4096 := ⟨_, rfl⟩
  have hs : 1 ≤ stepI at_ bs.length f ∧ f + stepI at_ bs.length f ≤ bs.length ∧ i + stepI at_ bs.length f ≤ 4096 := by unfold stepI; omega
  rw [← hp, ← hi]
  generalize stepI at_ bs.length f = k at hs ⊢
  have hpP : 0 ≤ p ∧ p < P := by omega
  generalize hm' : wrM m.f at_ (bs.take f.toNat) = m'
  refine X_open .here Spc.open ?_
  rintro ⟨mb, M⟩ hM
  dsimp only [List.cons_append, List.nil_append] at hM ⊢
  (repeat refine Z ?_)
  refine XO_call (keyOf_spec p hpP.1 (by omega)) (hk := ?_)
  rintro _ _ ⟨rfl, rfl⟩
  refine XO_dv (dv_alloc (row := [.int .u16 0, .int .u16 0])) (hk := ?_)
  rintro _ _ ⟨cb, rfl, rfl⟩
  refine XO_dv0 (dv_storeW (vs := [.int .u16 (p / 65536), .int .u16 (p % 65536)])) (hk := ?_)
  rintro _ _ rfl
  refine XO_nil ?_
  refine XE_code ?_
  refine X_seq ?_
  refine X_join (ι := Nat × List Int × List (Int × Nat × List Int) × List (Int × Nat × List Int)) (fun q => SpOk P m' (q.2.2.1 ++ (p, q.1, q.2.1) :: q.2.2.2) ∧ lk q.2.2.1 p = none)
    (fun q => [(0, .int .u64 p), (1, .int .u64 i), (2, .int .u64 k), (3, .int .u64 f), (4, .pointer (some ⟨sc, 0, none⟩)), (5, .pointer (some ⟨bc, 0, none⟩)), (10, .pointer (some ⟨cb, 0, none⟩))])
    (fun q => pt cb (.cells [.int .u16 (p / 65536), .int .u16 (p % 65536)].toArray 208 (0, 0)) :: Pgs (q.2.2.1 ++ (p, q.1, q.2.1) :: q.2.2.2) :: pt sb (.cells [.int .i64 P, .map (some mb), .int .i64 m.t].toArray 188 (0, 0)) :: Mp keyV pgV mb (pblk (q.2.2.1 ++ (p, q.1, q.2.1) :: q.2.2.2)) :: pt sc (.cells [.pointer (some ⟨sb, 0, none⟩)].toArray 82 (0, 0)) :: pt bc (.cells [.slice a bs.length c].toArray 56 (0, 0)) :: A :: F) ?_ ?_
  · (repeat refine Z ?_)
    (repeat refine ZD ?_)
    refine Dr (rv_lookup (ke := keyV) (ve := pgV) p none (ht := tk_page)) ?_
    (repeat refine ZD ?_)
    rw [lk_pblk]
    cases hlk : lk M p with
    | none =>
      simp only [Option.map_none, Option.getD_none]
      (refine XD_end (h := ?_); (repeat refine Z ?_))
      refine X_cond rfl (fun _ => ?_) (fun h => by cases h)
      (repeat refine Z ?_)
      (repeat refine ZD ?_)
      refine Dp (pv_buildArr (List.replicate 4096 (.int .u8 0)) (vs := []) (hf := congrArg some zero4096)) ?_
      (repeat refine ZD ?_)
      refine XD_one (h := ?_)
      refine XDa_dvA (dv_box (row := List.replicate 4096 (.int .u8 0))) (hk := ?_)
      rintro _ _ ⟨nb, rfl, rfl⟩
      refine ⟨by exact KP, ?_⟩
      (repeat refine ZD ?_)
      refine XD_one (h := ?_)
      refine XDa_dvk0 (dv_mapUpdate (ke := keyV) (ve := pgV) p (some nb) (ht := tk_page)) (K := _) (hk := ?_)
      rintro _ _ rfl
      refine ⟨by exact KP, ?_⟩
      (refine XD_end (h := ?_); (repeat refine Z ?_))
      rw [ins_pblk (xs := List.replicate 4096 0) hlk]
      refine XE_fold (by exact FAs) newPage ?_
      refine XE_fold (by exact FAs) (Pgs.add (p := p)) ?_
      exact X_meet (nb, List.replicate 4096 0, M, []) ⟨hM.add hpP hlk, hlk⟩ (by exact SBs) (by exact EN)
    | some q =>
      obtain ⟨b, ys⟩ := q
      obtain ⟨M1, M2, rfl, hn⟩ := lk_split hlk
      simp only [Option.map_some, Option.getD_some]
      (refine XD_end (h := ?_); (repeat refine Z ?_))
      refine X_cond rfl (fun h => by cases h) (fun _ => ?_)
      (repeat refine Z ?_)
      exact X_meet (b, ys, M1, M2) ⟨hM, hn⟩ (by exact SBs) (by exact EN)
  · rintro ⟨b, ys, M1, M2⟩ ⟨hM2, hn⟩
    dsimp only at hM2 hn ⊢
    have hlk : lk (M1 ++ (p, b, ys) :: M2) p = some (b, ys) := lk_mid hn
    have hyl : ys.length = 4096 := (hM2.len (p, b, ys) (by simp)).2.2
    refine X_open (A := Pgs (M1 ++ (p, b, ys) :: M2)) (by exact FDs) Pgs.out ?_
    rintro ⟨⟩ -
    dsimp only [List.cons_append, List.nil_append]
    refine X_view (by exact FDs) hV (by omega) ?_
    rintro b2 o2 rfl
    (repeat refine Z ?_)
    (repeat refine ZD ?_)
    refine Dr (rv_lookup (ke := keyV) (ve := pgV) p none (ht := tk_page)) ?_
    rw [lk_pblk, hlk]
    simp only [Option.map_some, Option.getD_some]
    (repeat refine ZD ?_)
    refine Dp pv_sliceArrL ?_
    (repeat refine ZD ?_)
    refine Dp pv_sliceLH ?_
    (repeat refine ZD ?_)
    have hye : ((bs.drop f.toNat).take k.toNat).length = k.toNat := by simp; omega
    refine XD_one (h := ?_)
    refine XDa_dvA (dv_copyAt (E' := eI .u8) (i := i.toNat) (s := 1) (o := 0) (b := b) (c := 4096) (m := (f + k).toNat - f.toNat) (m1 := 4096 - i.toNat) (a2 := subA (some ⟨b2, o2, none⟩) f.toNat c 1) (c2 := c - f.toNat) (xs := ys) (ys := (bs.drop f.toNat).take k.toNat) (A := A)
      (hx := by show some (Value.slice (subA (some ⟨b, 0, none⟩) i.toNat 4096 1) (4096 - i.toNat) (4096 - i.toNat)) = _; rw [subA_lt (by omega)])
      (hy := rfl)
      (hv := (hV.drop f.toNat rfl hc).take k.toNat) (hn := by rw [hye]; omega) (hm1 := by omega)) (hk := ?_)
    rintro _ _ ⟨rfl, rfl⟩
    refine ⟨by exact KP, ?_⟩
    (refine XD_end (h := ?_); (repeat refine Z ?_))
    have hB2 : Byt ((bs.drop f.toNat).take k.toNat) := fun x hx => hB x ((List.drop_subset _ _) ((List.take_subset _ _) hx))
    have hok := hM2.put (i := i.toNat) (bs := (bs.drop f.toNat).take k.toNat) hn (by rw [hye]; omega) hB2
    have hw := wr_wr m.f at_ (bs.take f.toNat) ((bs.drop f.toNat).take k.toNat)
    rw [← List.take_add, List.length_take, Nat.min_eq_left (by omega), hm', show f.toNat + k.toNat = (f + k).toNat from by omega, show at_ + ((f.toNat : Nat) : Int) = p * 4096 + ((i.toNat : Nat) : Int) from by omega] at hw
    rw [hw] at hok
    rw [show pblk (M1 ++ (p, b, ys) :: M2) = pblk (M1 ++ (p, b, cutIn ys i.toNat ((bs.drop f.toNat).take k.toNat)) :: M2) from by simp [pblk]]
    refine XE_fold (by exact FAs) (Pgs.back (p := p) (b := b) (xs := cutIn ys i.toNat ((bs.drop f.toNat).take k.toNat)) (M1 := M1) (M2 := M2)) ?_
    refine XE_fold (by exact FAs) (Spc.fold (mb := mb) (t := m.t) hok) ?_
    refine XE_ret (.inr rfl) (tells_tmps rfl rfl) ⟨_, rfl, ?_⟩
    exact EN
end Go.Proofs.YtamecmklcnohjaaGreat.Sep
namespace Go.Proofs.YtamecmklcnohjaaGreat.Sep
open Go.RowKit
set_option linter.unusedSimpArgs false
set_option linter.unusedVariables false
set_option maxHeartbeats 8000000
attribute [local irreducible] X XE XO XD XDi XDa PV RV DV pt base Spec Sl Mp Keeps Pgs Spc
theorem sstore_spec (A : HP) (sb c : Nat) (a : Option Addr) (P : Int) (m : Mm) (at_ : Int) (bs : List Int) (hV : View A (eI .u8) a bs) (hB : Byt bs) (hc : bs.length ≤ c) (hP : P ≤ 1048576) (h0 : 0 ≤ at_) (h1 : at_ + bs.length ≤ P * 4096) :
    Spec Tryz.prog 156 [.pointer (some ⟨sb, 0, none⟩), .int .u64 at_, .slice a bs.length c] [Spc sb P m, A] (fun v L => v = .tuple #[] ∧ L = [Spc sb P ⟨wrM m.f at_ bs, m.t⟩, A]) := by
  refine Spec.intro (IsEnt.out) Tryz.func156 rfl Tryz.ntmps156 (by simp) (fun w0 F => ?_)
  simp only [envOf, List.zipIdx, List.map, List.cons_append, List.nil_append, Nat.zero_add, Nat.reduceAdd]
  (repeat refine Z ?_)
  refine XO_dv dv_box1 (hk := ?_)
  rintro _ _ ⟨sc, rfl, rfl⟩
  (repeat refine Z ?_)
  refine XO_dv dv_box1 (hk := ?_)
  rintro _ _ ⟨bc, rfl, rfl⟩
  (repeat refine Z ?_)
  have e0 : wrM m.f at_ (bs.take (0 : Int).toNat) = m.f := wr_nil m.f at_
  refine XO_call (each_spec (stI A sb sc bc bs.length c a P m at_ bs) 181 [.pointer (some ⟨sc, 0, none⟩), .pointer (some ⟨bc, 0, none⟩)] at_ bs.length h0 (by omega) (by omega) (fun f f0 f1 => store1_spec A sb sc bc c a P m at_ f bs hV hB hc hP h0 h1 f0 f1)) (hf := by unfold stI; rw [e0]; exact FAs) (hk := ?_)
  rintro _ _ rfl
  unfold stI
  rw [show ((bs.length : Int)).toNat = bs.length from by omega, List.take_length]
  dsimp only [List.cons_append, List.nil_append]
  (repeat refine Z ?_)
  refine XE_ret (.inr rfl) (tells_tmps rfl rfl) ⟨_, ⟨rfl, rfl⟩, ?_⟩
  exact EN
def storeV (A : HP) (sb : Nat) (P : Int) (m : Mm) (at_ : Int) (bs : List Int) : Value → List HP → Prop :=
  if fitsI P at_ bs.length 1048576 = 0 then fun v L => v = .int .i64 0 ∧ L = [Spc sb P (stM m at_ bs), A]
  else fun v L => v = .int .i64 (fitsI P at_ bs.length 1048576) ∧ L = [Spc sb P m, A]
theorem Store_spec (A : HP) (sb c : Nat) (a : Option Addr) (P : Int) (m : Mm) (at_ : Int) (bs : List Int) (hV : View A (eI .u8) a bs) (hB : Byt bs) (hc : bs.length ≤ c) (hl : bs.length ≤ 1099511627776) (hP0 : 0 ≤ P) (hP : P ≤ 1048576) (h0 : 0 ≤ at_) (h1 : at_ ≤ 18446744073709551615) :
    Spec Tryz.prog 111 [.pointer (some ⟨sb, 0, none⟩), .int .u64 at_, .slice a bs.length c] [Spc sb P m, A] (storeV A sb P m at_ bs) := by
  refine Spec.intro (IsEnt.out) Tryz.func111 rfl Tryz.ntmps111 (by simp) (fun w0 F => ?_)
  simp only [envOf, List.zipIdx, List.map, List.cons_append, List.nil_append, Nat.zero_add, Nat.reduceAdd]
  (repeat refine Z ?_)
  refine XO_call (fits_spec sb P m at_ bs.length 1048576 hP0 hP h0 h1 (by omega) (by omega)) (hk := ?_)
  rintro _ _ ⟨rfl, rfl⟩
  (repeat refine Z ?_)
  refine X_cond rfl (fun h => ?_) (fun h => ?_) <;> simp at h
  · (repeat refine Z ?_)
    have hv : storeV A sb P m at_ bs = fun v L => v = .int .i64 (fitsI P at_ bs.length 1048576) ∧ L = [Spc sb P m, A] := by unfold storeV; rw [if_neg h]
    rw [hv]
    refine XE_ret (.inl rfl) (tells_tmps rfl rfl) ⟨_, ⟨rfl, rfl⟩, by exact EN⟩
  have hv : storeV A sb P m at_ bs = fun v L => v = .int .i64 0 ∧ L = [Spc sb P (stM m at_ bs), A] := by unfold storeV; rw [if_pos h]
  rw [hv]
  have hf : at_ + bs.length ≤ P * 4096 ∧ (bs.length : Int) ≤ 1048576 := by
    unfold fitsI at h
    split at h
    · split at h
      · cases h
      · omega
    · cases h
  refine X_open .here Spc.open ?_
  rintro ⟨mb, M⟩ hM
  dsimp only [List.cons_append, List.nil_append] at hM ⊢
  (repeat refine Z ?_)
  (repeat refine ZD ?_)
  refine XD_one (h := ?_)
  refine XDa_dvA (dv_call (touched_spec at_ bs.length h0 (by omega) (by omega))) (hk := ?_)
  (rintro _ _ ⟨_, ⟨rfl, rfl⟩, rfl⟩; refine ⟨by exact KP, ?_⟩)
  (repeat refine ZD ?_)
  refine XD_one (h := ?_)
  refine XDa_dvk0 dv_store (K := _) (hk := ?_)
  rintro _ _ rfl
  refine ⟨by exact KP, ?_⟩
  (refine XD_end (h := ?_); (repeat refine Z ?_))
  refine XO_fold (by exact FAs) (Spc.fold hM) ?_
  refine XO_call (sstore_spec A sb c a P (ldM m at_ bs.length) at_ bs hV hB hc hP h0 hf.1) (hk := ?_)
  rintro _ _ ⟨rfl, rfl⟩
  (repeat refine Z ?_)
  refine XE_ret (.inl rfl) (tells_tmps rfl rfl) ⟨_, ⟨rfl, rfl⟩, by exact EN⟩
end Go.Proofs.YtamecmklcnohjaaGreat.Sep
namespace Go.Proofs.YtamecmklcnohjaaGreat.Sep
open Go.RowKit
set_option linter.unusedSimpArgs false
set_option linter.unusedVariables false
def hdV (h : Hd) : Value := .agg #[.int .i64 h.pages, .int .i64 h.kind, .int .u64 h.owner, .int .u64 h.next]
def hatI (P page : Int) : Int := if 0 ≤ page ∧ page < P then page * 4096 else P * 4096
theorem hatI_bd {P page : Int} (h0 : 0 ≤ P) (h1 : P ≤ 1048576) : 0 ≤ hatI P page ∧ hatI P page ≤ 4294967296 := by unfold hatI; split <;> omega
set_option maxHeartbeats 8000000
attribute [local irreducible] X XE XO XD XDi XDa PV RV DV pt base Spec Sl Mp Keeps Pgs Spc
theorem hat_spec (sb : Nat) (P : Int) (m : Mm) (page : Int) (h0 : 0 ≤ P) (h1 : P ≤ 1048576) : Spec Tryz.prog 162 [.pointer (some ⟨sb, 0, none⟩), .int .i64 page] [Spc sb P m] (fun v L => v = .int .u64 (hatI P page) ∧ L = [Spc sb P m]) := by
  refine Spec.intro (IsEnt.out) Tryz.func162 rfl Tryz.ntmps162 (by simp) (fun w0 F => ?_)
  simp only [envOf, List.zipIdx, List.map, List.cons_append, List.nil_append, Nat.zero_add, Nat.reduceAdd]
  (repeat refine Z ?_)
  refine XO_either (hT := fun h => ?_) (hF := fun h => ?_) <;> simp only [decide_eq_true_eq, decide_eq_false_iff_not] at h
  · (repeat refine Z ?_)
    refine X_cond rfl (fun _ => ?_) (fun h => by cases h)
    (repeat refine Z ?_)
    refine XO_call (ssize_spec sb P m h0 h1) (hk := ?_)
    rintro _ _ ⟨rfl, rfl⟩
    (repeat refine Z ?_)
    unfold hatI
    rw [if_neg (by omega)]
    refine XE_ret (.inl rfl) (tells_tmps rfl rfl) ⟨_, ⟨rfl, rfl⟩, by exact EN⟩
  · (repeat refine Z ?_)
    refine XO_call (spages_spec sb P m) (hk := ?_)
    rintro _ _ ⟨rfl, rfl⟩
    (repeat refine Z ?_)
    refine X_cond rfl (fun h2 => ?_) (fun h2 => ?_) <;> simp only [decide_eq_true_eq, decide_eq_false_iff_not] at h2
    · (repeat refine Z ?_)
      refine XO_call (ssize_spec sb P m h0 h1) (hk := ?_)
      rintro _ _ ⟨rfl, rfl⟩
      (repeat refine Z ?_)
      unfold hatI
      rw [if_neg (by omega)]
      refine XE_ret (.inl rfl) (tells_tmps rfl rfl) ⟨_, ⟨rfl, rfl⟩, by exact EN⟩
    · (repeat refine Z ?_)
      unfold hatI
      rw [if_pos (by omega)]
      refine XE_ret (.inl rfl) (tells_tmps rfl rfl) ⟨_, ⟨rfl, rfl⟩, by exact EN⟩
theorem hright_spec (h : Hd) : Spec Tryz.prog 183 [hdV h] [] (fun v L => v = .bool (decide (HdOk h)) ∧ L = []) := by
  refine Spec.intro (IsEnt.out) Tryz.func183 rfl Tryz.ntmps183 (by simp) (fun w0 F => ?_)
  simp only [envOf, List.zipIdx, List.map, List.cons_append, List.nil_append, Nat.zero_add, Nat.reduceAdd]
  unfold hdV
  (repeat refine Z ?_)
  refine XO_dv (dv_box (row := [.int .i64 h.pages, .int .i64 h.kind, .int .u64 h.owner, .int .u64 h.next])) (hk := ?_)
  rintro _ _ ⟨hb, rfl, rfl⟩
  (repeat refine Z ?_)
  refine XO_either (hT := fun h1 => ?_) (hF := fun h1 => ?_) <;> simp only [decide_eq_true_eq, decide_eq_false_iff_not] at h1
  · (repeat refine Z ?_)
    refine XO_either (hT := fun h2 => ?_) (hF := fun h2 => ?_) <;> simp only [decide_eq_true_eq, decide_eq_false_iff_not] at h2
    · (repeat refine Z ?_)
      refine XO_either (hT := fun h3 => ?_) (hF := fun h3 => ?_) <;> simp only [decide_eq_true_eq, decide_eq_false_iff_not] at h3
      · (repeat refine Z ?_)
        refine XE_ret (.inl rfl) (tells_tmps rfl rfl) ⟨_, ⟨?_, rfl⟩, by exact EN⟩
        exact congrArg Value.bool (decide_eq_decide.2 (by unfold HdOk; omega))
      · (repeat refine Z ?_)
        refine XE_ret (.inl rfl) (tells_tmps rfl rfl) ⟨_, ⟨?_, rfl⟩, by exact EN⟩
        exact congrArg Value.bool (decide_eq_false (by unfold HdOk; omega)).symm
    · (repeat refine Z ?_)
      refine XE_ret (.inl rfl) (tells_tmps rfl rfl) ⟨_, ⟨?_, rfl⟩, by exact EN⟩
      exact congrArg Value.bool (decide_eq_false (by unfold HdOk; omega)).symm
  · (repeat refine Z ?_)
    refine XE_ret (.inl rfl) (tells_tmps rfl rfl) ⟨_, ⟨?_, rfl⟩, by exact EN⟩
    exact congrArg Value.bool (decide_eq_false (by unfold HdOk; omega)).symm
theorem hget_spec (cb ob : Nat) (xs : List Int) (at_ : Nat) (w : Int) (hw : w = 1 ∨ w = 2 ∨ w = 4 ∨ w = 8) (hl : xs.length = 32) (h : (at_ : Int) + w ≤ 32) (hB : Byt xs) :
    Spec Tryz.prog 186 [.int .i64 at_, .int .i64 w, .pointer (some ⟨cb, 0, none⟩)] [pt cb (.cells [.slice (some ⟨ob, 0, none⟩) 32 32].toArray 56 (0, 0)), Sl (eI .u8) (some ⟨ob, 0, none⟩) 32 xs]
      (fun v L => v = .int .u64 (leN ((xs.drop at_).take w.toNat)) ∧ L = [pt cb (.cells [.slice (some ⟨ob, 0, none⟩) 32 32].toArray 56 (0, 0)), Sl (eI .u8) (some ⟨ob, 0, none⟩) 32 xs]) := by
  refine Spec.intro (IsEnt.out) Tryz.func186 rfl Tryz.ntmps186 (by simp) (fun w0 F => ?_)
  simp only [envOf, List.zipIdx, List.map, List.cons_append, List.nil_append, Nat.zero_add, Nat.reduceAdd]
  (repeat refine Z ?_)
  have hg := wget_spec (Sl (eI .u8) (some ⟨ob, 0, none⟩) 32 xs) ob 0 32 at_ xs w hw (by omega) (by omega) Sl.view hB
  rw [hl] at hg
  refine XO_call hg (hk := ?_)
  rintro _ _ ⟨rfl, rfl⟩
  (repeat refine Z ?_)
  refine XE_ret (.inl rfl) (tells_tmps rfl rfl) ⟨_, ⟨rfl, rfl⟩, by exact EN⟩
end Go.Proofs.YtamecmklcnohjaaGreat.Sep
namespace Go.Proofs.YtamecmklcnohjaaGreat.Sep
open Go.RowKit
set_option linter.unusedSimpArgs false
set_option linter.unusedVariables false
def hd0 : Hd := ⟨0, 0, 0, 0⟩
def readI (P : Int) (m : Int → Int) (page : Int) : Hd × Int :=
  if 0 ≤ page ∧ page < P then (match hdRead (rdM m (page * 4096) 32) with
    | some h => (h, 0)
    | none => (hd0, 5)) else (hd0, 3)
def asB (l : List Int) : List UInt8 := l.map fun b => UInt8.ofNat b.toNat
theorem asB_back {l : List Int} (h : Byt l) : (asB l).map (fun b => (b.toNat : Int)) = l := by
  unfold asB
  rw [List.map_map]
  conv => rhs; rw [← List.map_id l]
  apply List.map_congr_left
  intro b hb
  have := h b hb
  simp only [Function.comp, id, UInt8.toNat_ofNat']
  omega
theorem asB_inj {l l' : List Int} (h : Byt l) (h' : Byt l') : asB l = asB l' ↔ l = l' := ⟨fun e => by rw [← asB_back h, ← asB_back h', e], fun e => by rw [e]⟩
theorem magic_eq {l : List Int} (h : Byt l) : (!((ByteArray.mk (asB l).toArray).toList == (ByteArray.mk #[115, 116, 101, 97, 100, 105, 110, 103]).toList)) = !decide (l = magicB) := by
  rw [ByteArray.toList_eq, ByteArray.toList_eq]
  have e : (ByteArray.mk #[115, 116, 101, 97, 100, 105, 110, 103]).data.toList = asB magicB := rfl
  rw [e]
  congr 1
  have hm : Byt magicB := fun b hb => by simp [magicB] at hb; omega
  have := asB_inj h hm
  by_cases hl : l = magicB
  · simp [hl]
  · have h2 : ¬ asB l = asB magicB := fun h3 => hl (this.1 h3)
    simp [hl, h2]
def hrM (P : Int) (m : Mm) (page : Int) : Mm := ⟨m.f, if 0 ≤ page ∧ page < P then IntKind.i64.wrap (m.t + 1) else m.t⟩
theorem ldM_hr {P : Int} {m : Mm} {page : Int} (h : 0 ≤ page ∧ page < P) : ldM m (page * 4096) 32 = hrM P m page := by
  unfold ldM hrM
  rw [touch_hdr, if_pos h]
theorem hrM_out {P : Int} {m : Mm} {page : Int} (h : ¬ (0 ≤ page ∧ page < P)) : hrM P m page = m := by
  unfold hrM
  rw [if_neg h]
set_option maxHeartbeats 8000000
attribute [local irreducible] X XE XO XD XDi XDa PV RV DV pt base Spec Sl Mp Keeps Pgs Spc
theorem hread_spec (sb : Nat) (P : Int) (m : Mm) (page : Int) (h0 : 0 ≤ P) (h1 : P ≤ 1048576) : Spec Tryz.prog 160 [.pointer (some ⟨sb, 0, none⟩), .int .i64 page] [Spc sb P m] (fun v L => v = .tuple #[hdV (readI P m.f page).1, .int .i64 (readI P m.f page).2] ∧ L = [Spc sb P (hrM P m page)]) := by
  refine Spec.intro (IsEnt.out) Tryz.func160 rfl Tryz.ntmps160 (by simp) (fun w0 F => ?_)
  simp only [envOf, List.zipIdx, List.map, List.cons_append, List.nil_append, Nat.zero_add, Nat.reduceAdd]
  (repeat refine Z ?_)
  refine XO_dv (dv_alloc (row := [.int .i64 0, .int .i64 0, .int .u64 0, .int .u64 0])) (hk := ?_)
  rintro _ _ ⟨rb, rfl, rfl⟩
  (repeat refine Z ?_)
  refine XO_call (hat_spec sb P m page h0 h1) (hk := ?_)
  rintro _ _ ⟨rfl, rfl⟩
  obtain ⟨b0, b1⟩ := hatI_bd (page := page) h0 h1
  refine XO_fact (A := Spc sb P m) (by exact FDs) Spc.byt (fun hbyt => ?_)
  have hxB : Byt (rdM m.f (page * 4096) 32) := fun b hb => by
    obtain ⟨j, hj, rfl⟩ := List.mem_map.1 hb
    exact hbyt _
  refine XO_call (Load_spec sb P m (hatI P page) 32 h0 h1 b0 (by omega) (by omega) (by omega)) (hk := ?_)
  by_cases hin : 0 ≤ page ∧ page < P
  · have ha : hatI P page = page * 4096 := by unfold hatI; rw [if_pos hin]
    have hf : fitsI P (hatI P page) 32 1048576 = 0 := by unfold fitsI; rw [if_pos (by omega), if_neg (by omega)]
    have hv : loadV sb P m (hatI P page) 32 = fun v L => ∃ ob, v = .tuple #[.slice (some ⟨ob, 0, none⟩) 32 32, .int .i64 0] ∧ L = [Spc sb P (hrM P m page), Sl (eI .u8) (some ⟨ob, 0, none⟩) 32 (rdM m.f (page * 4096) 32)] := by unfold loadV; rw [if_pos hf, ha, ldM_hr hin]; rfl
    rw [hv]
    rintro _ _ ⟨ob, rfl, rfl⟩
    have hxl : (rdM m.f (page * 4096) 32).length = 32 := rdM_len _ _ _
    have hrd : readI P m.f page = match hdRead (rdM m.f (page * 4096) 32) with
      | some h => (h, 0)
      | none => (hd0, 5) := by unfold readI; rw [if_pos hin]
    rw [hrd]
    generalize rdM m.f (page * 4096) 32 = xs at hxB hxl ⊢
    (repeat refine Z ?_)
    refine XO_dv (dv_alloc (row := [.slice none 0 0])) (hk := ?_)
    rintro _ _ ⟨cb, rfl, rfl⟩
    refine XO_dv0 (dv_store (row' := [.slice (some ⟨ob, 0, none⟩) 32 32])) (hk := ?_)
    rintro _ _ rfl
    (repeat refine Z ?_)
    refine X_cond rfl (fun h => by cases h) (fun _ => ?_)
    have hpart : ∀ i w : Nat, Byt ((xs.drop i).take w) := fun i w x hx => hxB x ((List.drop_subset _ _) ((List.take_subset _ _) hx))
    have g1 : 0 ≤ leN ((xs.drop 8).take (4 : Int).toNat) ∧ leN ((xs.drop 8).take (4 : Int).toNat) < 4294967296 := by
      have := leN_nn (hpart 8 4)
      rw [List.length_take, List.length_drop, hxl] at this
      exact this
    have g2 : 0 ≤ leN ((xs.drop 12).take (4 : Int).toNat) ∧ leN ((xs.drop 12).take (4 : Int).toNat) < 4294967296 := by
      have := leN_nn (hpart 12 4)
      rw [List.length_take, List.length_drop, hxl] at this
      exact this
    (repeat refine Z ?_)
    refine XO_call (hget_spec cb ob xs 8 4 (by omega) hxl (by omega) hxB) (hk := ?_)
    rintro _ _ ⟨rfl, rfl⟩
    (repeat refine Z ?_)
    refine XO_call (hget_spec cb ob xs 12 4 (by omega) hxl (by omega) hxB) (hk := ?_)
    rintro _ _ ⟨rfl, rfl⟩
    (repeat refine Z ?_)
    refine XO_call (hget_spec cb ob xs 16 8 (by omega) hxl (by omega) hxB) (hk := ?_)
    rintro _ _ ⟨rfl, rfl⟩
    (repeat refine Z ?_)
    refine XO_call (hget_spec cb ob xs 24 8 (by omega) hxl (by omega) hxB) (hk := ?_)
    rintro _ _ ⟨rfl, rfl⟩
    (repeat refine Z ?_)
    refine XO_dv (dv_alloc (row := [.int .i64 0, .int .i64 0, .int .u64 0, .int .u64 0])) (hk := ?_)
    rintro _ _ ⟨hb, rfl, rfl⟩
    refine XO_dv0 (dv_storeW (vs := [.int .i64 (hdOf xs).pages, .int .i64 (hdOf xs).kind, .int .u64 (hdOf xs).owner, .int .u64 (hdOf xs).next])) (hk := ?_)
    rintro _ _ rfl
    (repeat refine Z ?_)
    refine XO_rv (rv_stringOf (asB (xs.take 8)) (b := ob) (o := 0) (m := 8) (c := 32) (A := Sl (eI .u8) (some ⟨ob, 0, none⟩) 32 xs) (hx := rfl) (hV := Sl.view) (hm := by omega) (hl := asB_back (fun x hx => hxB x (List.take_subset _ _ hx)))) (hk := ?_)
    refine XO_pv pv_neStr (hk := ?_)
    refine XO_reval 37 (.bool (!decide (xs.take 8 = magicB))) (hv := congrArg Value.bool (magic_eq (fun x hx => hxB x (List.take_subset _ _ hx)))) (hk := ?_)
    (repeat refine Z ?_)
    refine XO_either (hT := fun h2 => ?_) (hF := fun h2 => ?_) <;> simp only [Bool.not_eq_true', Bool.not_eq_false', decide_eq_true_eq, decide_eq_false_iff_not] at h2
    · (repeat refine Z ?_)
      refine X_cond rfl (fun _ => ?_) (fun h => by cases h)
      (repeat refine Z ?_)
      have hr : hdRead xs = none := by unfold hdRead; rw [if_neg (fun h => h2 h.1)]
      rw [hr]
      refine XO_dv0 (dv_storeW (vs := [.int .i64 0, .int .i64 0, .int .u64 0, .int .u64 0])) (hk := ?_)
      rintro _ _ rfl
      (repeat refine Z ?_)
      refine XE_ret (.inl rfl) (tells_many (rs := [.cell _ _, .tmp _]) (vs := [_, _]) rfl ⟨told_cell, told_tmp, trivial⟩) ⟨_, ⟨rfl, rfl⟩, by exact EN⟩
    · (repeat refine Z ?_)
      refine XO_call (hright_spec (hdOf xs)) (hk := ?_)
      rintro _ _ ⟨rfl, rfl⟩
      (repeat refine Z ?_)
      refine X_cond rfl (fun h3 => ?_) (fun h3 => ?_) <;> simp only [Bool.not_eq_true', Bool.not_eq_false', decide_eq_true_eq, decide_eq_false_iff_not] at h3
      · have hr : hdRead xs = none := by unfold hdRead; rw [if_neg (fun h => h3 h.2)]
        rw [hr]
        (repeat refine Z ?_)
        refine XO_dv0 (dv_storeW (vs := [.int .i64 0, .int .i64 0, .int .u64 0, .int .u64 0])) (hk := ?_)
        rintro _ _ rfl
        (repeat refine Z ?_)
        refine XE_ret (.inl rfl) (tells_many (rs := [.cell _ _, .tmp _]) (vs := [_, _]) rfl ⟨told_cell, told_tmp, trivial⟩) ⟨_, ⟨rfl, rfl⟩, by exact EN⟩
      · have hr : hdRead xs = some (hdOf xs) := by unfold hdRead; rw [if_pos ⟨h2, h3⟩]
        rw [hr]
        (repeat refine Z ?_)
        refine XO_dv0 (dv_storeW (vs := [.int .i64 (hdOf xs).pages, .int .i64 (hdOf xs).kind, .int .u64 (hdOf xs).owner, .int .u64 (hdOf xs).next])) (hk := ?_)
        rintro _ _ rfl
        (repeat refine Z ?_)
        refine XE_ret (.inl rfl) (tells_many (rs := [.cell _ _, .tmp _]) (vs := [_, _]) rfl ⟨told_cell, told_tmp, trivial⟩) ⟨_, ⟨rfl, rfl⟩, by exact EN⟩
  · have ha : hatI P page = P * 4096 := by unfold hatI; rw [if_neg hin]
    have hf : fitsI P (hatI P page) 32 1048576 = 3 := by unfold fitsI; rw [if_neg (by omega)]
    have hv : loadV sb P m (hatI P page) 32 = fun v L => v = .tuple #[.slice none 0 0, .int .i64 3] ∧ L = [Spc sb P m] := by unfold loadV; rw [if_neg (by rw [hf]; decide), hf]
    rw [hv]
    rintro _ _ ⟨rfl, rfl⟩
    have hrd : readI P m.f page = (hd0, 3) := by unfold readI; rw [if_neg hin]
    rw [hrd, hrM_out hin]
    (repeat refine Z ?_)
    refine XO_dv (dv_alloc (row := [.slice none 0 0])) (hk := ?_)
    rintro _ _ ⟨cb, rfl, rfl⟩
    refine XO_dv0 (dv_store (row' := [.slice none 0 0])) (hk := ?_)
    rintro _ _ rfl
    (repeat refine Z ?_)
    refine X_cond rfl (fun _ => ?_) (fun h => by cases h)
    (repeat refine Z ?_)
    refine XO_dv0 (dv_storeW (vs := [.int .i64 0, .int .i64 0, .int .u64 0, .int .u64 0])) (hk := ?_)
    rintro _ _ rfl
    (repeat refine Z ?_)
    refine XE_ret (.inl rfl) (tells_many (rs := [.cell _ _, .tmp _]) (vs := [_, _]) rfl ⟨told_cell, told_tmp, trivial⟩) ⟨_, ⟨rfl, rfl⟩, by exact EN⟩
end Go.Proofs.YtamecmklcnohjaaGreat.Sep
