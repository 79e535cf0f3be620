import Derived.Test.YteobjankkcdaoaaSepY
namespace Go.Proofs.Yteobjankkcdaoaa.Sep
set_option linter.unusedSimpArgs false
set_option linter.unusedVariables false
/-! numbers as bytes, and bytes as numbers: plain -/
def leB : Nat → Int → List Int
  | 0, _ => []
  | k + 1, n => n % 256 :: leB k (n / 256)
def leN : List Int → Int
  | [] => 0
  | b :: l => b + 256 * leN l
def Byt (l : List Int) : Prop := ∀ b ∈ l, 0 ≤ b ∧ b ≤ 255
theorem leB_len : ∀ (k : Nat) (n : Int), (leB k n).length = k
  | 0, _ => rfl
  | k + 1, n => by simp [leB, leB_len k]
theorem leB_byt : ∀ (k : Nat) (n : Int), Byt (leB k n)
  | 0, _ => fun b hb => by cases hb
  | k + 1, n => fun b hb => by
    rcases List.mem_cons.1 hb with rfl | hb
    · omega
    · exact leB_byt k _ b hb
theorem pow_pos256 (i : Nat) : (0 : Int) < ((256 ^ i : Nat) : Int) := by have : 0 < 256 ^ i := Nat.pow_pos (by decide); omega
theorem div_div256 (n : Int) (i : Nat) : n / 256 / ((256 ^ i : Nat) : Int) = n / ((256 ^ (i + 1) : Nat) : Int) := by
  rw [Int.ediv_ediv_of_nonneg (by decide), Nat.pow_succ, Nat.mul_comm]
  rfl
theorem leB_get : ∀ (k : Nat) (n : Int) (i : Nat), i < k → (leB k n)[i]? = some (n / ((256 ^ i : Nat) : Int) % 256)
  | 0, _, i, h => by omega
  | k + 1, n, 0, h => by simp [leB]
  | k + 1, n, i + 1, h => by
    simp only [leB, List.getElem?_cons_succ]
    rw [leB_get k _ i (by omega), div_div256]
theorem leN_nn : ∀ {l : List Int}, Byt l → 0 ≤ leN l ∧ leN l < ((256 ^ l.length : Nat) : Int)
  | [], _ => by simp [leN]
  | b :: l, h => by
    have ih := leN_nn (l := l) (fun x hx => h x (by simp [hx]))
    have hb := h b (by simp)
    have e : ((256 ^ (l.length + 1) : Nat) : Int) = 256 * ((256 ^ l.length : Nat) : Int) := by rw [Nat.pow_succ, Nat.mul_comm]; rfl
    simp only [leN, List.length_cons, e]
    omega
theorem leN_leB : ∀ (k : Nat) (n : Int), 0 ≤ n → n < ((256 ^ k : Nat) : Int) → leN (leB k n) = n
  | 0, n, h0, h1 => by simp at h1; simp [leB, leN]; omega
  | k + 1, n, h0, h1 => by
    have e : ((256 ^ (k + 1) : Nat) : Int) = 256 * ((256 ^ k : Nat) : Int) := by rw [Nat.pow_succ, Nat.mul_comm]; rfl
    rw [e] at h1
    simp only [leB, leN]
    rw [leN_leB k (n / 256) (by omega) (by omega)]
    omega
/-- One byte more. -/
theorem leN_snoc : ∀ (l : List Int) (b : Int), leN (l ++ [b]) = leN l + b * ((256 ^ l.length : Nat) : Int)
  | [], b => by simp [leN]
  | a :: l, b => by
    have e : ((256 ^ (l.length + 1) : Nat) : Int) = 256 * ((256 ^ l.length : Nat) : Int) := by rw [Nat.pow_succ, Nat.mul_comm]; rfl
    simp only [List.cons_append, leN, leN_snoc l b, List.length_cons, e]
    rw [Int.mul_add, Int.add_assoc]
    congr 2
    rw [← Int.mul_assoc, ← Int.mul_assoc, Int.mul_comm 256 b]
theorem leN_take {l : List Int} {i : Nat} (h : i < l.length) : leN (l.take (i + 1)) = leN (l.take i) + l[i] * ((256 ^ i : Nat) : Int) := by
  rw [List.take_succ_eq_append_getElem h, leN_snoc, List.length_take, Nat.min_eq_left (by omega)]
/-- Bytes that lie above others are set beside them. -/
theorem or_add {a b i : Nat} (ha : a < 2 ^ (8 * i)) : a ||| (b * 2 ^ (8 * i)) = a + b * 2 ^ (8 * i) := by
  rw [Nat.or_comm, Nat.mul_comm, ← Nat.two_pow_add_eq_or_of_lt ha, Nat.add_comm]
theorem pow256 (i : Nat) : 256 ^ i = 2 ^ (8 * i) := by rw [Nat.pow_mul]

/-! bytes at places -/
def rdM (m : Int → Int) (at_ : Int) (n : Nat) : List Int := (List.range n).map fun i : Nat => m (at_ + i)
def wrM (m : Int → Int) (at_ : Int) (bs : List Int) : Int → Int := fun a => if at_ ≤ a ∧ a < at_ + bs.length then bs.getD (a - at_).toNat 0 else m a
def zrM (m : Int → Int) (at_ n : Int) : Int → Int := fun a => if at_ ≤ a ∧ a < at_ + n then 0 else m a
theorem rdM_len (m : Int → Int) (at_ : Int) (n : Nat) : (rdM m at_ n).length = n := by simp [rdM]
theorem rdM_get {m : Int → Int} {at_ : Int} {n i : Nat} (h : i < n) : (rdM m at_ n)[i]? = some (m (at_ + i)) := by simp [rdM, h]
theorem rdM_ext {m m' : Int → Int} {at_ : Int} {n : Nat} (h : ∀ a, at_ ≤ a → a < at_ + n → m a = m' a) : rdM m at_ n = rdM m' at_ n := by
  simp only [rdM]
  apply List.map_congr_left
  intro i hi
  have := List.mem_range.1 hi
  exact h _ (by omega) (by omega)
theorem rd_wr (m : Int → Int) (at_ : Int) (bs : List Int) : rdM (wrM m at_ bs) at_ bs.length = bs := by
  apply List.ext_getElem?
  intro i
  by_cases h : i < bs.length
  · rw [rdM_get h]
    simp only [wrM]
    rw [if_pos (by omega), show (at_ + (i : Int) - at_).toNat = i from by omega]
    simp [List.getD, h]
  · rw [List.getElem?_eq_none (by rw [rdM_len]; omega), List.getElem?_eq_none (by omega)]
theorem rd_wr_ne {m : Int → Int} {at_ a2 : Int} {bs : List Int} {n : Nat} (h : a2 + n ≤ at_ ∨ at_ + bs.length ≤ a2) : rdM (wrM m at_ bs) a2 n = rdM m a2 n :=
  rdM_ext fun a h1 h2 => by simp only [wrM]; rw [if_neg (by omega)]
theorem rd_zr_ne {m : Int → Int} {at_ a2 k : Int} {n : Nat} (h : a2 + n ≤ at_ ∨ at_ + k ≤ a2) : rdM (zrM m at_ k) a2 n = rdM m a2 n :=
  rdM_ext fun a h1 h2 => by simp only [zrM]; rw [if_neg (by omega)]

/-! headers of chunks -/
def magicB : List Int := [115, 116, 101, 97, 100, 105, 110, 103]
structure Hd where
  pages : Int
  kind : Int
  owner : Int
  next : Int
def HdOk (h : Hd) : Prop := 1 ≤ h.pages ∧ h.pages ≤ 1048576 ∧ 0 ≤ h.kind ∧ h.kind < 256
instance (h : Hd) : Decidable (HdOk h) := by unfold HdOk; exact inferInstance
def hdB (h : Hd) : List Int := magicB ++ ((leB 4 h.pages ++ leB 4 h.kind) ++ (leB 8 h.owner ++ leB 8 h.next))
/-- What 32 bytes tell. -/
def hdOf (l : List Int) : Hd := ⟨leN ((l.drop 8).take 4), leN ((l.drop 12).take 4), leN ((l.drop 16).take 8), leN ((l.drop 24).take 8)⟩
def hdRead (l : List Int) : Option Hd := if l.take 8 = magicB ∧ HdOk (hdOf l) then some (hdOf l) else none
theorem hdB_len (h : Hd) : (hdB h).length = 32 := by simp [hdB, magicB, leB_len]
theorem hd_back {h : Hd} (hk : HdOk h) (h0 : 0 ≤ h.owner) (h1 : h.owner < 18446744073709551616) (h2 : 0 ≤ h.next) (h3 : h.next < 18446744073709551616) : hdRead (hdB h) = some h := by
  obtain ⟨a1, a2, a3, a4⟩ := hk
  have e : hdOf (hdB h) = h := by
    obtain ⟨p, k, o, x⟩ := h
    simp only [hdOf, hdB, magicB, leB, List.cons_append, List.nil_append, List.drop, List.take, Hd.mk.injEq]
    simp only at a1 a2 a3 a4 h0 h1 h2 h3
    refine ⟨?_, ?_, ?_, ?_⟩
    · exact leN_leB 4 p (by omega) (by show p < 4294967296; omega)
    · exact leN_leB 4 k (by omega) (by show k < 4294967296; omega)
    · exact leN_leB 8 o h0 h1
    · exact leN_leB 8 x h2 h3
  unfold hdRead
  rw [e, if_pos ⟨rfl, a1, a2, a3, a4⟩]
end Go.Proofs.Yteobjankkcdaoaa.Sep
