import Derived.Test.YtamecmklcnohjaaGreatBn5
import Derived.Test.YtamecmklcnohjaaGreatBn4
import Derived.Test.YtamecmklcnohjaaGreatBn3
/- What the laws share: a separation logic over the model, and what the program's functions do, by it. Part 6 of 15: SpaceE Head HeadB SpaceF HeadC Runs RunsB RunsC. -/
namespace Go.Proofs.YtamecmklcnohjaaGreat.Sep
open Go.RowKit
set_option linter.unusedSimpArgs false
set_option linter.unusedVariables false
/-! bytes that are laid, whole -/
set_option maxHeartbeats 8000000
attribute [local irreducible] X XE XO XD XDi XDa PV RV DV pt base Spec Sl Mp Keeps Pgs Spc
theorem sstore_spec (A : HP) (sb c : Nat) (a : Option Addr) (P : Int) (m : Mm) (at_ : Int) (bs : List Int) (hV : View A (eI .u8) a bs) (hB : Byt bs) (hc : bs.length ≤ c) (hP : P ≤ 1048576) (h0 : 0 ≤ at_) (h1 : at_ + bs.length ≤ P * 4096) :
    Spec Tryz.prog 156 [.pointer (some ⟨sb, 0, none⟩), .int .u64 at_, .slice a bs.length c] [Spc sb P m, A] (fun v L => v = .tuple #[] ∧ L = [Spc sb P ⟨wrM m.f at_ bs, m.t⟩, A]) := by
  refine Spec.intro (IsEnt.out) Tryz.func156 rfl Tryz.ntmps156 (by simp) (fun w0 F => ?_)
  simp only [envOf, List.zipIdx, List.map, List.cons_append, List.nil_append, Nat.zero_add, Nat.reduceAdd]
  repeat (first | refine Zq ?_ | refine Zs ?_ | refine ZT ?_ | refine ZF ?_ | refine Zc ?_ | refine XO_gU (hk := ?_))
  refine XO_dv dv_box1 (hk := ?_)
  rintro _ _ ⟨sc, rfl, rfl⟩
  repeat (first | refine Zq ?_ | refine Zs ?_ | refine ZT ?_ | refine ZF ?_ | refine Zc ?_ | refine XO_gU (hk := ?_))
  refine XO_dv dv_box1 (hk := ?_)
  rintro _ _ ⟨bc, rfl, rfl⟩
  repeat (first | refine Zq ?_ | refine Zs ?_ | refine ZT ?_ | refine ZF ?_ | refine Zc ?_ | refine XO_gU (hk := ?_))
  have e0 : wrM m.f at_ (bs.take (0 : Int).toNat) = m.f := wr_nil m.f at_
  refine XO_call (each_spec (stI A sb sc bc bs.length c a P m at_ bs) 181 [.pointer (some ⟨sc, 0, none⟩), .pointer (some ⟨bc, 0, none⟩)] at_ bs.length h0 (by omega) (by omega) (fun f f0 f1 => store1_spec A sb sc bc c a P m at_ f bs hV hB hc hP h0 h1 f0 f1)) (hf := by unfold stI; rw [e0]; repeat (first | exact FindAll.nil | exact Find.here | apply Find.there | apply FindAll.cons)) (hk := ?_)
  rintro _ _ rfl
  unfold stI
  rw [show ((bs.length : Int)).toNat = bs.length from by omega, List.take_length]
  dsimp only [List.cons_append, List.nil_append]
  repeat (first | refine Zq ?_ | refine Zs ?_ | refine ZT ?_ | refine ZF ?_ | refine Zc ?_ | refine XO_gU (hk := ?_))
  refine XE_ret (.inr rfl) (tells_tmps rfl rfl) ⟨_, ⟨rfl, rfl⟩, ?_⟩
  ((try simp only [List.cons_append, List.nil_append]); repeat (first | exact ent_refl | refine ent_take (by repeat (first | exact Find.here | apply Find.there)) ?_ | refine ent_drop ?_))
def storeV (A : HP) (sb : Nat) (P : Int) (m : Mm) (at_ : Int) (bs : List Int) : Value → List HP → Prop :=
  if fitsI P at_ bs.length 1048576 = 0 then fun v L => v = .int .i64 0 ∧ L = [Spc sb P (stM m at_ bs), A]
  else fun v L => v = .int .i64 (fitsI P at_ bs.length 1048576) ∧ L = [Spc sb P m, A]
theorem Store_spec (A : HP) (sb c : Nat) (a : Option Addr) (P : Int) (m : Mm) (at_ : Int) (bs : List Int) (hV : View A (eI .u8) a bs) (hB : Byt bs) (hc : bs.length ≤ c) (hl : bs.length ≤ 1099511627776) (hP0 : 0 ≤ P) (hP : P ≤ 1048576) (h0 : 0 ≤ at_) (h1 : at_ ≤ 18446744073709551615) :
    Spec Tryz.prog 111 [.pointer (some ⟨sb, 0, none⟩), .int .u64 at_, .slice a bs.length c] [Spc sb P m, A] (storeV A sb P m at_ bs) := by
  refine Spec.intro (IsEnt.out) Tryz.func111 rfl Tryz.ntmps111 (by simp) (fun w0 F => ?_)
  simp only [envOf, List.zipIdx, List.map, List.cons_append, List.nil_append, Nat.zero_add, Nat.reduceAdd]
  repeat (first | refine Zq ?_ | refine Zs ?_ | refine ZT ?_ | refine ZF ?_ | refine Zc ?_ | refine XO_gU (hk := ?_))
  refine XO_call (fits_spec sb P m at_ bs.length 1048576 hP0 hP h0 h1 (by omega) (by omega)) (hk := ?_)
  rintro _ _ ⟨rfl, rfl⟩
  repeat (first | refine Zq ?_ | refine Zs ?_ | refine ZT ?_ | refine ZF ?_ | refine Zc ?_ | refine XO_gU (hk := ?_))
  refine X_cond rfl (fun h => ?_) (fun h => ?_) <;> simp at h
  · repeat (first | refine Zq ?_ | refine Zs ?_ | refine ZT ?_ | refine ZF ?_ | refine Zc ?_ | refine XO_gU (hk := ?_))
    have hv : storeV A sb P m at_ bs = fun v L => v = .int .i64 (fitsI P at_ bs.length 1048576) ∧ L = [Spc sb P m, A] := by unfold storeV; rw [if_neg h]
    rw [hv]
    refine XE_ret (.inl rfl) (tells_tmps rfl rfl) ⟨_, ⟨rfl, rfl⟩, by ((try simp only [List.cons_append, List.nil_append]); repeat (first | exact ent_refl | refine ent_take (by repeat (first | exact Find.here | apply Find.there)) ?_ | refine ent_drop ?_))⟩
  have hv : storeV A sb P m at_ bs = fun v L => v = .int .i64 0 ∧ L = [Spc sb P (stM m at_ bs), A] := by unfold storeV; rw [if_pos h]
  rw [hv]
  have hf : at_ + bs.length ≤ P * 4096 ∧ (bs.length : Int) ≤ 1048576 := by
    unfold fitsI at h
    split at h
    · split at h
      · cases h
      · omega
    · cases h
  refine X_open .here Spc.open ?_
  rintro ⟨mb, M⟩ hM
  dsimp only [List.cons_append, List.nil_append] at hM ⊢
  repeat (first | refine Zq ?_ | refine Zs ?_ | refine ZT ?_ | refine ZF ?_ | refine Zc ?_ | refine XO_gU (hk := ?_))
  repeat (first | refine XD_pick (h := ?_) | refine Dq ?_ | refine Ds ?_ | refine XDi_gF (h := ?_) | refine XDi_gU (h := ?_) | refine X_draws (h := ?_))
  refine XD_one (h := ?_)
  refine XDa_dvA (dv_call (touched_spec at_ bs.length h0 (by omega) (by omega))) (hk := ?_)
  (rintro _ _ ⟨_, ⟨rfl, rfl⟩, rfl⟩; refine ⟨by (repeat (first | exact keeps_nil | exact keeps_fnil | refine keeps_skip (h := ?_) | refine keeps_takeQ (h := ?_))), ?_⟩)
  repeat (first | refine XD_pick (h := ?_) | refine Dq ?_ | refine Ds ?_ | refine XDi_gF (h := ?_) | refine XDi_gU (h := ?_) | refine X_draws (h := ?_))
  refine XD_one (h := ?_)
  refine XDa_dvk0 dv_store (K := _) (hk := ?_)
  rintro _ _ rfl
  refine ⟨by (repeat (first | exact keeps_nil | exact keeps_fnil | refine keeps_skip (h := ?_) | refine keeps_takeQ (h := ?_))), ?_⟩
  (refine XD_end (h := ?_); repeat (first | refine Zq ?_ | refine Zs ?_ | refine ZT ?_ | refine ZF ?_ | refine Zc ?_ | refine XO_gU (hk := ?_)))
  refine XO_fold (by repeat (first | exact FindAll.nil | exact Find.here | apply Find.there | apply FindAll.cons)) (Spc.fold hM) ?_
  refine XO_call (sstore_spec A sb c a P (ldM m at_ bs.length) at_ bs hV hB hc hP h0 hf.1) (hk := ?_)
  rintro _ _ ⟨rfl, rfl⟩
  repeat (first | refine Zq ?_ | refine Zs ?_ | refine ZT ?_ | refine ZF ?_ | refine Zc ?_ | refine XO_gU (hk := ?_))
  refine XE_ret (.inl rfl) (tells_tmps rfl rfl) ⟨_, ⟨rfl, rfl⟩, by ((try simp only [List.cons_append, List.nil_append]); repeat (first | exact ent_refl | refine ent_take (by repeat (first | exact Find.here | apply Find.there)) ?_ | refine ent_drop ?_))⟩
end Go.Proofs.YtamecmklcnohjaaGreat.Sep
namespace Go.Proofs.YtamecmklcnohjaaGreat.Sep
open Go.RowKit
set_option linter.unusedSimpArgs false
set_option linter.unusedVariables false
/-! headers: where they stand, whether they may be, what is read -/
def hdV (h : Hd) : Value := .agg #[.int .i64 h.pages, .int .i64 h.kind, .int .u64 h.owner, .int .u64 h.next]
def hatI (P page : Int) : Int := if 0 ≤ page ∧ page < P then page * 4096 else P * 4096
theorem hatI_bd {P page : Int} (h0 : 0 ≤ P) (h1 : P ≤ 1048576) : 0 ≤ hatI P page ∧ hatI P page ≤ 4294967296 := by unfold hatI; split <;> omega
set_option maxHeartbeats 8000000
attribute [local irreducible] X XE XO XD XDi XDa PV RV DV pt base Spec Sl Mp Keeps Pgs Spc
theorem hat_spec (sb : Nat) (P : Int) (m : Mm) (page : Int) (h0 : 0 ≤ P) (h1 : P ≤ 1048576) : Spec Tryz.prog 162 [.pointer (some ⟨sb, 0, none⟩), .int .i64 page] [Spc sb P m] (fun v L => v = .int .u64 (hatI P page) ∧ L = [Spc sb P m]) := by
  refine Spec.intro (IsEnt.out) Tryz.func162 rfl Tryz.ntmps162 (by simp) (fun w0 F => ?_)
  simp only [envOf, List.zipIdx, List.map, List.cons_append, List.nil_append, Nat.zero_add, Nat.reduceAdd]
  repeat (first | refine Zq ?_ | refine Zs ?_ | refine ZT ?_ | refine ZF ?_ | refine Zc ?_ | refine XO_gU (hk := ?_))
  refine XO_either (hT := fun h => ?_) (hF := fun h => ?_) <;> simp only [decide_eq_true_eq, decide_eq_false_iff_not] at h
  · repeat (first | refine Zq ?_ | refine Zs ?_ | refine ZT ?_ | refine ZF ?_ | refine Zc ?_ | refine XO_gU (hk := ?_))
    refine X_cond rfl (fun _ => ?_) (fun h => by cases h)
    repeat (first | refine Zq ?_ | refine Zs ?_ | refine ZT ?_ | refine ZF ?_ | refine Zc ?_ | refine XO_gU (hk := ?_))
    refine XO_call (ssize_spec sb P m h0 h1) (hk := ?_)
    rintro _ _ ⟨rfl, rfl⟩
    repeat (first | refine Zq ?_ | refine Zs ?_ | refine ZT ?_ | refine ZF ?_ | refine Zc ?_ | refine XO_gU (hk := ?_))
    unfold hatI
    rw [if_neg (by omega)]
    refine XE_ret (.inl rfl) (tells_tmps rfl rfl) ⟨_, ⟨rfl, rfl⟩, by ((try simp only [List.cons_append, List.nil_append]); repeat (first | exact ent_refl | refine ent_take (by repeat (first | exact Find.here | apply Find.there)) ?_ | refine ent_drop ?_))⟩
  · repeat (first | refine Zq ?_ | refine Zs ?_ | refine ZT ?_ | refine ZF ?_ | refine Zc ?_ | refine XO_gU (hk := ?_))
    refine XO_call (spages_spec sb P m) (hk := ?_)
    rintro _ _ ⟨rfl, rfl⟩
    repeat (first | refine Zq ?_ | refine Zs ?_ | refine ZT ?_ | refine ZF ?_ | refine Zc ?_ | refine XO_gU (hk := ?_))
    refine X_cond rfl (fun h2 => ?_) (fun h2 => ?_) <;> simp only [decide_eq_true_eq, decide_eq_false_iff_not] at h2
    · repeat (first | refine Zq ?_ | refine Zs ?_ | refine ZT ?_ | refine ZF ?_ | refine Zc ?_ | refine XO_gU (hk := ?_))
      refine XO_call (ssize_spec sb P m h0 h1) (hk := ?_)
      rintro _ _ ⟨rfl, rfl⟩
      repeat (first | refine Zq ?_ | refine Zs ?_ | refine ZT ?_ | refine ZF ?_ | refine Zc ?_ | refine XO_gU (hk := ?_))
      unfold hatI
      rw [if_neg (by omega)]
      refine XE_ret (.inl rfl) (tells_tmps rfl rfl) ⟨_, ⟨rfl, rfl⟩, by ((try simp only [List.cons_append, List.nil_append]); repeat (first | exact ent_refl | refine ent_take (by repeat (first | exact Find.here | apply Find.there)) ?_ | refine ent_drop ?_))⟩
    · repeat (first | refine Zq ?_ | refine Zs ?_ | refine ZT ?_ | refine ZF ?_ | refine Zc ?_ | refine XO_gU (hk := ?_))
      unfold hatI
      rw [if_pos (by omega)]
      refine XE_ret (.inl rfl) (tells_tmps rfl rfl) ⟨_, ⟨rfl, rfl⟩, by ((try simp only [List.cons_append, List.nil_append]); repeat (first | exact ent_refl | refine ent_take (by repeat (first | exact Find.here | apply Find.there)) ?_ | refine ent_drop ?_))⟩
theorem hright_spec (h : Hd) : Spec Tryz.prog 183 [hdV h] [] (fun v L => v = .bool (decide (HdOk h)) ∧ L = []) := by
  refine Spec.intro (IsEnt.out) Tryz.func183 rfl Tryz.ntmps183 (by simp) (fun w0 F => ?_)
  simp only [envOf, List.zipIdx, List.map, List.cons_append, List.nil_append, Nat.zero_add, Nat.reduceAdd]
  unfold hdV
  repeat (first | refine Zq ?_ | refine Zs ?_ | refine ZT ?_ | refine ZF ?_ | refine Zc ?_ | refine XO_gU (hk := ?_))
  refine XO_dv (dv_box (row := [.int .i64 h.pages, .int .i64 h.kind, .int .u64 h.owner, .int .u64 h.next])) (hk := ?_)
  rintro _ _ ⟨hb, rfl, rfl⟩
  repeat (first | refine Zq ?_ | refine Zs ?_ | refine ZT ?_ | refine ZF ?_ | refine Zc ?_ | refine XO_gU (hk := ?_))
  refine XO_either (hT := fun h1 => ?_) (hF := fun h1 => ?_) <;> simp only [decide_eq_true_eq, decide_eq_false_iff_not] at h1
  · repeat (first | refine Zq ?_ | refine Zs ?_ | refine ZT ?_ | refine ZF ?_ | refine Zc ?_ | refine XO_gU (hk := ?_))
    refine XO_either (hT := fun h2 => ?_) (hF := fun h2 => ?_) <;> simp only [decide_eq_true_eq, decide_eq_false_iff_not] at h2
    · repeat (first | refine Zq ?_ | refine Zs ?_ | refine ZT ?_ | refine ZF ?_ | refine Zc ?_ | refine XO_gU (hk := ?_))
      refine XO_either (hT := fun h3 => ?_) (hF := fun h3 => ?_) <;> simp only [decide_eq_true_eq, decide_eq_false_iff_not] at h3
      · repeat (first | refine Zq ?_ | refine Zs ?_ | refine ZT ?_ | refine ZF ?_ | refine Zc ?_ | refine XO_gU (hk := ?_))
        refine XE_ret (.inl rfl) (tells_tmps rfl rfl) ⟨_, ⟨?_, rfl⟩, by ((try simp only [List.cons_append, List.nil_append]); repeat (first | exact ent_refl | refine ent_take (by repeat (first | exact Find.here | apply Find.there)) ?_ | refine ent_drop ?_))⟩
        exact congrArg Value.bool (decide_eq_decide.2 (by unfold HdOk; omega))
      · repeat (first | refine Zq ?_ | refine Zs ?_ | refine ZT ?_ | refine ZF ?_ | refine Zc ?_ | refine XO_gU (hk := ?_))
        refine XE_ret (.inl rfl) (tells_tmps rfl rfl) ⟨_, ⟨?_, rfl⟩, by ((try simp only [List.cons_append, List.nil_append]); repeat (first | exact ent_refl | refine ent_take (by repeat (first | exact Find.here | apply Find.there)) ?_ | refine ent_drop ?_))⟩
        exact congrArg Value.bool (decide_eq_false (by unfold HdOk; omega)).symm
    · repeat (first | refine Zq ?_ | refine Zs ?_ | refine ZT ?_ | refine ZF ?_ | refine Zc ?_ | refine XO_gU (hk := ?_))
      refine XE_ret (.inl rfl) (tells_tmps rfl rfl) ⟨_, ⟨?_, rfl⟩, by ((try simp only [List.cons_append, List.nil_append]); repeat (first | exact ent_refl | refine ent_take (by repeat (first | exact Find.here | apply Find.there)) ?_ | refine ent_drop ?_))⟩
      exact congrArg Value.bool (decide_eq_false (by unfold HdOk; omega)).symm
  · repeat (first | refine Zq ?_ | refine Zs ?_ | refine ZT ?_ | refine ZF ?_ | refine Zc ?_ | refine XO_gU (hk := ?_))
    refine XE_ret (.inl rfl) (tells_tmps rfl rfl) ⟨_, ⟨?_, rfl⟩, by ((try simp only [List.cons_append, List.nil_append]); repeat (first | exact ent_refl | refine ent_take (by repeat (first | exact Find.here | apply Find.there)) ?_ | refine ent_drop ?_))⟩
    exact congrArg Value.bool (decide_eq_false (by unfold HdOk; omega)).symm
theorem hget_spec (cb ob : Nat) (xs : List Int) (at_ : Nat) (w : Int) (hw : w = 1 ∨ w = 2 ∨ w = 4 ∨ w = 8) (hl : xs.length = 32) (h : (at_ : Int) + w ≤ 32) (hB : Byt xs) :
    Spec Tryz.prog 186 [.int .i64 at_, .int .i64 w, .pointer (some ⟨cb, 0, none⟩)] [pt cb (.cells [.slice (some ⟨ob, 0, none⟩) 32 32].toArray 56 (0, 0)), Sl (eI .u8) (some ⟨ob, 0, none⟩) 32 xs]
      (fun v L => v = .int .u64 (leN ((xs.drop at_).take w.toNat)) ∧ L = [pt cb (.cells [.slice (some ⟨ob, 0, none⟩) 32 32].toArray 56 (0, 0)), Sl (eI .u8) (some ⟨ob, 0, none⟩) 32 xs]) := by
  refine Spec.intro (IsEnt.out) Tryz.func186 rfl Tryz.ntmps186 (by simp) (fun w0 F => ?_)
  simp only [envOf, List.zipIdx, List.map, List.cons_append, List.nil_append, Nat.zero_add, Nat.reduceAdd]
  repeat (first | refine Zq ?_ | refine Zs ?_ | refine ZT ?_ | refine ZF ?_ | refine Zc ?_ | refine XO_gU (hk := ?_))
  have hg := wget_spec (Sl (eI .u8) (some ⟨ob, 0, none⟩) 32 xs) ob 0 32 at_ xs w hw (by omega) (by omega) Sl.view hB
  rw [hl] at hg
  refine XO_call hg (hk := ?_)
  rintro _ _ ⟨rfl, rfl⟩
  repeat (first | refine Zq ?_ | refine Zs ?_ | refine ZT ?_ | refine ZF ?_ | refine Zc ?_ | refine XO_gU (hk := ?_))
  refine XE_ret (.inl rfl) (tells_tmps rfl rfl) ⟨_, ⟨rfl, rfl⟩, by ((try simp only [List.cons_append, List.nil_append]); repeat (first | exact ent_refl | refine ent_take (by repeat (first | exact Find.here | apply Find.there)) ?_ | refine ent_drop ?_))⟩
end Go.Proofs.YtamecmklcnohjaaGreat.Sep
namespace Go.Proofs.YtamecmklcnohjaaGreat.Sep
open Go.RowKit
set_option linter.unusedSimpArgs false
set_option linter.unusedVariables false
/-! headers that are read -/
def hd0 : Hd := ⟨0, 0, 0, 0⟩
/-- What is read at a page. -/
def readI (P : Int) (m : Int → Int) (page : Int) : Hd × Int :=
  if 0 ≤ page ∧ page < P then (match hdRead (rdM m (page * 4096) 32) with
    | some h => (h, 0)
    | none => (hd0, 5)) else (hd0, 3)
def asB (l : List Int) : List UInt8 := l.map fun b => UInt8.ofNat b.toNat
theorem asB_back {l : List Int} (h : Byt l) : (asB l).map (fun b => (b.toNat : Int)) = l := by
  unfold asB
  rw [List.map_map]
  conv => rhs; rw [← List.map_id l]
  apply List.map_congr_left
  intro b hb
  have := h b hb
  simp only [Function.comp, id, UInt8.toNat_ofNat']
  omega
theorem asB_inj {l l' : List Int} (h : Byt l) (h' : Byt l') : asB l = asB l' ↔ l = l' := ⟨fun e => by rw [← asB_back h, ← asB_back h', e], fun e => by rw [e]⟩
theorem magic_eq {l : List Int} (h : Byt l) : (!((ByteArray.mk (asB l).toArray).toList == (ByteArray.mk #[115, 116, 101, 97, 100, 105, 110, 103]).toList)) = !decide (l = magicB) := by
  rw [ByteArray.toList_eq, ByteArray.toList_eq]
  have e : (ByteArray.mk #[115, 116, 101, 97, 100, 105, 110, 103]).data.toList = asB magicB := rfl
  rw [e]
  congr 1
  have hm : Byt magicB := fun b hb => by simp [magicB] at hb; omega
  have := asB_inj h hm
  by_cases hl : l = magicB
  · simp [hl]
  · have h2 : ¬ asB l = asB magicB := fun h3 => hl (this.1 h3)
    simp [hl, h2]
/-- What is touched by a header that is read. -/
def hrM (P : Int) (m : Mm) (page : Int) : Mm := ⟨m.f, if 0 ≤ page ∧ page < P then IntKind.i64.wrap (m.t + 1) else m.t⟩
theorem ldM_hr {P : Int} {m : Mm} {page : Int} (h : 0 ≤ page ∧ page < P) : ldM m (page * 4096) 32 = hrM P m page := by
  unfold ldM hrM
  rw [touch_hdr, if_pos h]
theorem hrM_out {P : Int} {m : Mm} {page : Int} (h : ¬ (0 ≤ page ∧ page < P)) : hrM P m page = m := by
  unfold hrM
  rw [if_neg h]
set_option maxHeartbeats 8000000
attribute [local irreducible] X XE XO XD XDi XDa PV RV DV pt base Spec Sl Mp Keeps Pgs Spc
theorem hread_spec (sb : Nat) (P : Int) (m : Mm) (page : Int) (h0 : 0 ≤ P) (h1 : P ≤ 1048576) : Spec Tryz.prog 160 [.pointer (some ⟨sb, 0, none⟩), .int .i64 page] [Spc sb P m] (fun v L => v = .tuple #[hdV (readI P m.f page).1, .int .i64 (readI P m.f page).2] ∧ L = [Spc sb P (hrM P m page)]) := by
  refine Spec.intro (IsEnt.out) Tryz.func160 rfl Tryz.ntmps160 (by simp) (fun w0 F => ?_)
  simp only [envOf, List.zipIdx, List.map, List.cons_append, List.nil_append, Nat.zero_add, Nat.reduceAdd]
  repeat (first | refine Zq ?_ | refine Zs ?_ | refine ZT ?_ | refine ZF ?_ | refine Zc ?_ | refine XO_gU (hk := ?_))
  refine XO_dv (dv_alloc (row := [.int .i64 0, .int .i64 0, .int .u64 0, .int .u64 0])) (hk := ?_)
  rintro _ _ ⟨rb, rfl, rfl⟩
  repeat (first | refine Zq ?_ | refine Zs ?_ | refine ZT ?_ | refine ZF ?_ | refine Zc ?_ | refine XO_gU (hk := ?_))
  refine XO_call (hat_spec sb P m page h0 h1) (hk := ?_)
  rintro _ _ ⟨rfl, rfl⟩
  obtain ⟨b0, b1⟩ := hatI_bd (page := page) h0 h1
  refine XO_fact (A := Spc sb P m) (by (repeat (first | exact Find.here | apply Find.there))) Spc.byt (fun hbyt => ?_)
  have hxB : Byt (rdM m.f (page * 4096) 32) := fun b hb => by
    obtain ⟨j, hj, rfl⟩ := List.mem_map.1 hb
    exact hbyt _
  refine XO_call (Load_spec sb P m (hatI P page) 32 h0 h1 b0 (by omega) (by omega) (by omega)) (hk := ?_)
  by_cases hin : 0 ≤ page ∧ page < P
  · have ha : hatI P page = page * 4096 := by unfold hatI; rw [if_pos hin]
    have hf : fitsI P (hatI P page) 32 1048576 = 0 := by unfold fitsI; rw [if_pos (by omega), if_neg (by omega)]
    have hv : loadV sb P m (hatI P page) 32 = fun v L => ∃ ob, v = .tuple #[.slice (some ⟨ob, 0, none⟩) 32 32, .int .i64 0] ∧ L = [Spc sb P (hrM P m page), Sl (eI .u8) (some ⟨ob, 0, none⟩) 32 (rdM m.f (page * 4096) 32)] := by unfold loadV; rw [if_pos hf, ha, ldM_hr hin]; rfl
    rw [hv]
    rintro _ _ ⟨ob, rfl, rfl⟩
    have hxl : (rdM m.f (page * 4096) 32).length = 32 := rdM_len _ _ _
    have hrd : readI P m.f page = match hdRead (rdM m.f (page * 4096) 32) with
      | some h => (h, 0)
      | none => (hd0, 5) := by unfold readI; rw [if_pos hin]
    rw [hrd]
    generalize rdM m.f (page * 4096) 32 = xs at hxB hxl ⊢
    repeat (first | refine Zq ?_ | refine Zs ?_ | refine ZT ?_ | refine ZF ?_ | refine Zc ?_ | refine XO_gU (hk := ?_))
    refine XO_dv (dv_alloc (row := [.slice none 0 0])) (hk := ?_)
    rintro _ _ ⟨cb, rfl, rfl⟩
    refine XO_dv0 (dv_store (row' := [.slice (some ⟨ob, 0, none⟩) 32 32])) (hk := ?_)
    rintro _ _ rfl
    repeat (first | refine Zq ?_ | refine Zs ?_ | refine ZT ?_ | refine ZF ?_ | refine Zc ?_ | refine XO_gU (hk := ?_))
    refine X_cond rfl (fun h => by cases h) (fun _ => ?_)
    have hpart : ∀ i w : Nat, Byt ((xs.drop i).take w) := fun i w x hx => hxB x ((List.drop_subset _ _) ((List.take_subset _ _) hx))
    have g1 : 0 ≤ leN ((xs.drop 8).take (4 : Int).toNat) ∧ leN ((xs.drop 8).take (4 : Int).toNat) < 4294967296 := by
      have := leN_nn (hpart 8 4)
      rw [List.length_take, List.length_drop, hxl] at this
      exact this
    have g2 : 0 ≤ leN ((xs.drop 12).take (4 : Int).toNat) ∧ leN ((xs.drop 12).take (4 : Int).toNat) < 4294967296 := by
      have := leN_nn (hpart 12 4)
      rw [List.length_take, List.length_drop, hxl] at this
      exact this
    repeat (first | refine Zq ?_ | refine Zs ?_ | refine ZT ?_ | refine ZF ?_ | refine Zc ?_ | refine XO_gU (hk := ?_))
    refine XO_call (hget_spec cb ob xs 8 4 (by omega) hxl (by omega) hxB) (hk := ?_)
    rintro _ _ ⟨rfl, rfl⟩
    repeat (first | refine Zq ?_ | refine Zs ?_ | refine ZT ?_ | refine ZF ?_ | refine Zc ?_ | refine XO_gU (hk := ?_))
    refine XO_call (hget_spec cb ob xs 12 4 (by omega) hxl (by omega) hxB) (hk := ?_)
    rintro _ _ ⟨rfl, rfl⟩
    repeat (first | refine Zq ?_ | refine Zs ?_ | refine ZT ?_ | refine ZF ?_ | refine Zc ?_ | refine XO_gU (hk := ?_))
    refine XO_call (hget_spec cb ob xs 16 8 (by omega) hxl (by omega) hxB) (hk := ?_)
    rintro _ _ ⟨rfl, rfl⟩
    repeat (first | refine Zq ?_ | refine Zs ?_ | refine ZT ?_ | refine ZF ?_ | refine Zc ?_ | refine XO_gU (hk := ?_))
    refine XO_call (hget_spec cb ob xs 24 8 (by omega) hxl (by omega) hxB) (hk := ?_)
    rintro _ _ ⟨rfl, rfl⟩
    repeat (first | refine Zq ?_ | refine Zs ?_ | refine ZT ?_ | refine ZF ?_ | refine Zc ?_ | refine XO_gU (hk := ?_))
    refine XO_dv (dv_alloc (row := [.int .i64 0, .int .i64 0, .int .u64 0, .int .u64 0])) (hk := ?_)
    rintro _ _ ⟨hb, rfl, rfl⟩
    refine XO_dv0 (dv_storeW (vs := [.int .i64 (hdOf xs).pages, .int .i64 (hdOf xs).kind, .int .u64 (hdOf xs).owner, .int .u64 (hdOf xs).next])) (hk := ?_)
    rintro _ _ rfl
    repeat (first | refine Zq ?_ | refine Zs ?_ | refine ZT ?_ | refine ZF ?_ | refine Zc ?_ | refine XO_gU (hk := ?_))
    refine XO_rv (rv_stringOf (asB (xs.take 8)) (b := ob) (o := 0) (m := 8) (c := 32) (A := Sl (eI .u8) (some ⟨ob, 0, none⟩) 32 xs) (hx := rfl) (hV := Sl.view) (hm := by omega) (hl := asB_back (fun x hx => hxB x (List.take_subset _ _ hx)))) (hk := ?_)
    refine XO_pv pv_neStr (hk := ?_)
    refine XO_reval 37 (.bool (!decide (xs.take 8 = magicB))) (hv := congrArg Value.bool (magic_eq (fun x hx => hxB x (List.take_subset _ _ hx)))) (hk := ?_)
    repeat (first | refine Zq ?_ | refine Zs ?_ | refine ZT ?_ | refine ZF ?_ | refine Zc ?_ | refine XO_gU (hk := ?_))
    refine XO_either (hT := fun h2 => ?_) (hF := fun h2 => ?_) <;> simp only [Bool.not_eq_true', Bool.not_eq_false', decide_eq_true_eq, decide_eq_false_iff_not] at h2
    · repeat (first | refine Zq ?_ | refine Zs ?_ | refine ZT ?_ | refine ZF ?_ | refine Zc ?_ | refine XO_gU (hk := ?_))
      refine X_cond rfl (fun _ => ?_) (fun h => by cases h)
      repeat (first | refine Zq ?_ | refine Zs ?_ | refine ZT ?_ | refine ZF ?_ | refine Zc ?_ | refine XO_gU (hk := ?_))
      have hr : hdRead xs = none := by unfold hdRead; rw [if_neg (fun h => h2 h.1)]
      rw [hr]
      refine XO_dv0 (dv_storeW (vs := [.int .i64 0, .int .i64 0, .int .u64 0, .int .u64 0])) (hk := ?_)
      rintro _ _ rfl
      repeat (first | refine Zq ?_ | refine Zs ?_ | refine ZT ?_ | refine ZF ?_ | refine Zc ?_ | refine XO_gU (hk := ?_))
      refine XE_ret (.inl rfl) (tells_many (rs := [.cell _ _, .tmp _]) (vs := [_, _]) rfl ⟨told_cell, told_tmp, trivial⟩) ⟨_, ⟨rfl, rfl⟩, by ((try simp only [List.cons_append, List.nil_append]); repeat (first | exact ent_refl | refine ent_take (by repeat (first | exact Find.here | apply Find.there)) ?_ | refine ent_drop ?_))⟩
    · repeat (first | refine Zq ?_ | refine Zs ?_ | refine ZT ?_ | refine ZF ?_ | refine Zc ?_ | refine XO_gU (hk := ?_))
      refine XO_call (hright_spec (hdOf xs)) (hk := ?_)
      rintro _ _ ⟨rfl, rfl⟩
      repeat (first | refine Zq ?_ | refine Zs ?_ | refine ZT ?_ | refine ZF ?_ | refine Zc ?_ | refine XO_gU (hk := ?_))
      refine X_cond rfl (fun h3 => ?_) (fun h3 => ?_) <;> simp only [Bool.not_eq_true', Bool.not_eq_false', decide_eq_true_eq, decide_eq_false_iff_not] at h3
      · have hr : hdRead xs = none := by unfold hdRead; rw [if_neg (fun h => h3 h.2)]
        rw [hr]
        repeat (first | refine Zq ?_ | refine Zs ?_ | refine ZT ?_ | refine ZF ?_ | refine Zc ?_ | refine XO_gU (hk := ?_))
        refine XO_dv0 (dv_storeW (vs := [.int .i64 0, .int .i64 0, .int .u64 0, .int .u64 0])) (hk := ?_)
        rintro _ _ rfl
        repeat (first | refine Zq ?_ | refine Zs ?_ | refine ZT ?_ | refine ZF ?_ | refine Zc ?_ | refine XO_gU (hk := ?_))
        refine XE_ret (.inl rfl) (tells_many (rs := [.cell _ _, .tmp _]) (vs := [_, _]) rfl ⟨told_cell, told_tmp, trivial⟩) ⟨_, ⟨rfl, rfl⟩, by ((try simp only [List.cons_append, List.nil_append]); repeat (first | exact ent_refl | refine ent_take (by repeat (first | exact Find.here | apply Find.there)) ?_ | refine ent_drop ?_))⟩
      · have hr : hdRead xs = some (hdOf xs) := by unfold hdRead; rw [if_pos ⟨h2, h3⟩]
        rw [hr]
        repeat (first | refine Zq ?_ | refine Zs ?_ | refine ZT ?_ | refine ZF ?_ | refine Zc ?_ | refine XO_gU (hk := ?_))
        refine XO_dv0 (dv_storeW (vs := [.int .i64 (hdOf xs).pages, .int .i64 (hdOf xs).kind, .int .u64 (hdOf xs).owner, .int .u64 (hdOf xs).next])) (hk := ?_)
        rintro _ _ rfl
        repeat (first | refine Zq ?_ | refine Zs ?_ | refine ZT ?_ | refine ZF ?_ | refine Zc ?_ | refine XO_gU (hk := ?_))
        refine XE_ret (.inl rfl) (tells_many (rs := [.cell _ _, .tmp _]) (vs := [_, _]) rfl ⟨told_cell, told_tmp, trivial⟩) ⟨_, ⟨rfl, rfl⟩, by ((try simp only [List.cons_append, List.nil_append]); repeat (first | exact ent_refl | refine ent_take (by repeat (first | exact Find.here | apply Find.there)) ?_ | refine ent_drop ?_))⟩
  · have ha : hatI P page = P * 4096 := by unfold hatI; rw [if_neg hin]
    have hf : fitsI P (hatI P page) 32 1048576 = 3 := by unfold fitsI; rw [if_neg (by omega)]
    have hv : loadV sb P m (hatI P page) 32 = fun v L => v = .tuple #[.slice none 0 0, .int .i64 3] ∧ L = [Spc sb P m] := by unfold loadV; rw [if_neg (by rw [hf]; decide), hf]
    rw [hv]
    rintro _ _ ⟨rfl, rfl⟩
    have hrd : readI P m.f page = (hd0, 3) := by unfold readI; rw [if_neg hin]
    rw [hrd, hrM_out hin]
    repeat (first | refine Zq ?_ | refine Zs ?_ | refine ZT ?_ | refine ZF ?_ | refine Zc ?_ | refine XO_gU (hk := ?_))
    refine XO_dv (dv_alloc (row := [.slice none 0 0])) (hk := ?_)
    rintro _ _ ⟨cb, rfl, rfl⟩
    refine XO_dv0 (dv_store (row' := [.slice none 0 0])) (hk := ?_)
    rintro _ _ rfl
    repeat (first | refine Zq ?_ | refine Zs ?_ | refine ZT ?_ | refine ZF ?_ | refine Zc ?_ | refine XO_gU (hk := ?_))
    refine X_cond rfl (fun _ => ?_) (fun h => by cases h)
    repeat (first | refine Zq ?_ | refine Zs ?_ | refine ZT ?_ | refine ZF ?_ | refine Zc ?_ | refine XO_gU (hk := ?_))
    refine XO_dv0 (dv_storeW (vs := [.int .i64 0, .int .i64 0, .int .u64 0, .int .u64 0])) (hk := ?_)
    rintro _ _ rfl
    repeat (first | refine Zq ?_ | refine Zs ?_ | refine ZT ?_ | refine ZF ?_ | refine Zc ?_ | refine XO_gU (hk := ?_))
    refine XE_ret (.inl rfl) (tells_many (rs := [.cell _ _, .tmp _]) (vs := [_, _]) rfl ⟨told_cell, told_tmp, trivial⟩) ⟨_, ⟨rfl, rfl⟩, by ((try simp only [List.cons_append, List.nil_append]); repeat (first | exact ent_refl | refine ent_take (by repeat (first | exact Find.here | apply Find.there)) ?_ | refine ent_drop ?_))⟩
end Go.Proofs.YtamecmklcnohjaaGreat.Sep
namespace Go.Proofs.YtamecmklcnohjaaGreat.Sep
open Go.RowKit
set_option linter.unusedSimpArgs false
set_option linter.unusedVariables false
/-! bytes that are made 0 -/
def tb (T : List (Int × Nat)) : List (Int × Option Nat) := T.map fun z => (z.1, some z.2)
structure ZInv (P : Int) (m : Int → Int) (at_ n : Int) (M : List (Int × Nat × List Int)) (T : List (Int × Nat)) : Prop where
  mem : ∀ a, memOf M a = if a / 4096 ∈ T.map (·.1) then m a else zrM m at_ n a
  len : ∀ q ∈ M, 0 ≤ q.1 ∧ q.1 < P ∧ q.2.2.length = 4096
  sub : ∀ z ∈ T, ∃ ys, (z.1, z.2, ys) ∈ M
  nd : (T.map (·.1)).Nodup
def zpage (at_ n p : Int) (ys : List Int) : List Int :=
  if min (at_ + n) (p * 4096 + 4096) ≤ max at_ (p * 4096) then ys
  else cutIn ys (max at_ (p * 4096) - p * 4096).toNat (List.replicate (min (at_ + n) (p * 4096 + 4096) - max at_ (p * 4096)).toNat 0)
theorem memOf_mid {M1 M2 : List (Int × Nat × List Int)} {p : Int} {b : Nat} {ys : List Int} (hn : lk M1 p = none) {a : Int} (ha : a / 4096 ≠ p) (ys' : List Int) : memOf (M1 ++ (p, b, ys') :: M2) a = memOf (M1 ++ (p, b, ys) :: M2) a := by
  rw [← ins_split (v := (b, ys)) hn]
  unfold memOf
  rw [lk_ins, if_neg ha]
theorem zinv_step {P : Int} {m : Int → Int} {at_ n p : Int} {b : Nat} {ys : List Int} {M1 M2 : List (Int × Nat × List Int)} {T1 T2 : List (Int × Nat)} (h : ZInv P m at_ n (M1 ++ (p, b, ys) :: M2) (T1 ++ (p, b) :: T2)) (hn : lk M1 p = none) :
    ZInv P m at_ n (M1 ++ (p, b, zpage at_ n p ys) :: M2) (T1 ++ T2) := by
  have hl := (h.len (p, b, ys) (by simp)).2.2
  have hlk : lk (M1 ++ (p, b, ys) :: M2) p = some (b, ys) := lk_mid hn
  have hnd := h.nd
  rw [List.map_append, List.map_cons, List.nodup_append] at hnd
  obtain ⟨n1, n2, n3⟩ := hnd
  rw [List.nodup_cons] at n2
  have hp1 : p ∉ T1.map (·.1) := fun hp => n3 p hp p (by simp) rfl
  have hzl : (zpage at_ n p ys).length = 4096 := by
    unfold zpage
    split
    · exact hl
    · rw [cutIn_len (by rw [List.length_replicate, hl]; omega)]; exact hl
  refine ⟨fun a => ?_, fun q hq => ?_, fun z hz => ?_, ?_⟩
  · by_cases ha : a / 4096 = p
    · have hin : ¬ a / 4096 ∈ (T1 ++ T2).map (·.1) := by
        rw [ha, List.map_append, List.mem_append]
        rintro (hx | hx)
        · exact hp1 hx
        · exact n2.1 hx
      rw [if_neg hin]
      have hm := h.mem a
      rw [if_pos (by rw [ha]; simp)] at hm
      unfold zpage
      split
      · rw [hm]; unfold zrM; rw [if_neg (by omega)]
      · rw [← ins_split (v := (b, ys)) hn, memOf_put hlk hl (by rw [List.length_replicate]; omega)]
        unfold wrM zrM
        rw [List.length_replicate]
        by_cases hc : at_ ≤ a ∧ a < at_ + n
        · rw [if_pos hc, if_pos (by omega)]; exact rep0 _ _
        · rw [if_neg hc, if_neg (by omega), hm]
    · rw [memOf_mid hn ha, h.mem a]
      have e : a / 4096 ∈ (T1 ++ (p, b) :: T2).map (·.1) ↔ a / 4096 ∈ (T1 ++ T2).map (·.1) := by
        simp only [List.map_append, List.map_cons, List.mem_append, List.mem_cons, ha, false_or]
      by_cases hx : a / 4096 ∈ (T1 ++ T2).map (·.1)
      · rw [if_pos hx, if_pos (e.2 hx)]
      · rw [if_neg hx, if_neg (fun h => hx (e.1 h))]
  · rcases List.mem_append.1 hq with hq | hq
    · exact h.len q (by simp [hq])
    · rcases List.mem_cons.1 hq with rfl | hq
      · exact ⟨(h.len (p, b, ys) (by simp)).1, (h.len (p, b, ys) (by simp)).2.1, hzl⟩
      · exact h.len q (by simp [hq])
  · have hz' : z ∈ T1 ++ (p, b) :: T2 := by rcases List.mem_append.1 hz with hz | hz <;> simp [hz]
    have hne : z.1 ≠ p := by
      rintro rfl
      rcases List.mem_append.1 hz with hz | hz
      · exact hp1 (List.mem_map.2 ⟨z, hz, rfl⟩)
      · exact n2.1 (List.mem_map.2 ⟨z, hz, rfl⟩)
    obtain ⟨zs, hzs⟩ := h.sub z hz'
    refine ⟨zs, ?_⟩
    rcases List.mem_append.1 hzs with hx | hx
    · simp [hx]
    · rcases List.mem_cons.1 hx with hx | hx
      · exact absurd (congrArg (·.1) hx) hne
      · simp [hx]
  · rw [List.map_append, List.nodup_append]
    exact ⟨n1, n2.2, fun a ha c hc => n3 a ha c (List.mem_cons_of_mem _ hc)⟩
theorem lk_skip {M1 M2 : List (Int × Nat × List Int)} {p : Int} {v : Nat × List Int} {k : Int} (h : k ≠ p) : lk (M1 ++ (p, v) :: M2) k = lk (M1 ++ M2) k := by
  induction M1 with
  | nil => simp [lk, h]
  | cons q M1 ih => obtain ⟨a, u⟩ := q; simp only [List.cons_append, lk]; split; rfl; exact ih
theorem zinv_del {P : Int} {m : Int → Int} {at_ n p : Int} {b : Nat} {ys : List Int} {M1 M2 : List (Int × Nat × List Int)} {T1 T2 : List (Int × Nat)} (h : ZInv P m at_ n (M1 ++ (p, b, ys) :: M2) (T1 ++ (p, b) :: T2)) (hn : lk (M1 ++ M2) p = none)
    (hf : at_ ≤ p * 4096 ∧ p * 4096 + 4096 ≤ at_ + n) : ZInv P m at_ n (M1 ++ M2) (T1 ++ T2) := by
  have hnd := h.nd
  rw [List.map_append, List.map_cons, List.nodup_append] at hnd
  obtain ⟨n1, n2, n3⟩ := hnd
  rw [List.nodup_cons] at n2
  have hp1 : p ∉ T1.map (·.1) := fun hp => n3 p hp p (by simp) rfl
  refine ⟨fun a => ?_, fun q hq => h.len q (by rcases List.mem_append.1 hq with hq | hq <;> simp [hq]), fun z hz => ?_, ?_⟩
  · by_cases ha : a / 4096 = p
    · have hin : ¬ a / 4096 ∈ (T1 ++ T2).map (·.1) := by
        rw [ha, List.map_append, List.mem_append]
        rintro (hx | hx)
        · exact hp1 hx
        · exact n2.1 hx
      rw [if_neg hin]
      unfold memOf zrM
      rw [ha, hn, if_pos (by omega)]
    · have hm := h.mem a
      have e : a / 4096 ∈ (T1 ++ (p, b) :: T2).map (·.1) ↔ a / 4096 ∈ (T1 ++ T2).map (·.1) := by
        simp only [List.map_append, List.map_cons, List.mem_append, List.mem_cons, ha, false_or]
      have e2 : memOf (M1 ++ (p, b, ys) :: M2) a = memOf (M1 ++ M2) a := by unfold memOf; rw [lk_skip ha]
      rw [e2] at hm
      rw [hm]
      by_cases hx : a / 4096 ∈ (T1 ++ T2).map (·.1)
      · rw [if_pos hx, if_pos (e.2 hx)]
      · rw [if_neg hx, if_neg (fun h => hx (e.1 h))]
  · have hz' : z ∈ T1 ++ (p, b) :: T2 := by rcases List.mem_append.1 hz with hz | hz <;> simp [hz]
    have hne : z.1 ≠ p := by
      rintro rfl
      rcases List.mem_append.1 hz with hz | hz
      · exact hp1 (List.mem_map.2 ⟨z, hz, rfl⟩)
      · exact n2.1 (List.mem_map.2 ⟨z, hz, rfl⟩)
    obtain ⟨zs, hzs⟩ := h.sub z hz'
    refine ⟨zs, ?_⟩
    rcases List.mem_append.1 hzs with hx | hx
    · simp [hx]
    · rcases List.mem_cons.1 hx with hx | hx
      · exact absurd (congrArg (·.1) hx) hne
      · simp [hx]
  · rw [List.map_append, List.nodup_append]
    exact ⟨n1, n2.2, fun a ha c hc => n3 a ha c (List.mem_cons_of_mem _ hc)⟩
theorem zinv_start {P : Int} {m : Int → Int} {at_ n : Int} {M : List (Int × Nat × List Int)} (h : SpOk P m M) (hnd : (M.map (·.1)).Nodup) : ZInv P m at_ n M (M.map fun q => (q.1, q.2.1)) := by
  have e : (M.map fun q => (q.1, q.2.1)).map (·.1) = M.map (·.1) := by rw [List.map_map]; rfl
  refine ⟨fun a => ?_, h.len, fun z hz => ?_, by rw [e]; exact hnd⟩
  · rw [e, h.mem]
    split
    · rfl
    · rename_i hx
      have h0 : m a = 0 := by
        rw [← h.mem]; unfold memOf
        rw [lk_none.2 hx]
      unfold zrM
      split
      · exact h0
      · rfl
  · obtain ⟨q, hq, rfl⟩ := List.mem_map.1 hz
    exact ⟨q.2.2, hq⟩
theorem zinv_end {P : Int} {m : Int → Int} {at_ n : Int} {M : List (Int × Nat × List Int)} (h : ZInv P m at_ n M []) (hb : ∀ a, 0 ≤ m a ∧ m a ≤ 255) : SpOk P (zrM m at_ n) M :=
  ⟨funext fun a => by rw [h.mem a]; simp, h.len, fun a => by unfold zrM; split; exact ⟨Int.le_refl 0, by decide⟩; exact hb a⟩
theorem tb_app (T1 T2 : List (Int × Nat)) : tb (T1 ++ T2) = tb T1 ++ tb T2 := by simp [tb]
theorem mpi_nd {κ α : Type} {ke : κ → Value} {ve : α → Value} {b r : Nat} {l todo : List (κ × α)} : ∀ H, MpI ke ve b r l todo H → (l.map (·.1)).Nodup := fun H h => h.1
theorem pblk_keys (M : List (Int × Nat × List Int)) : (pblk M).map (·.1) = M.map (·.1) := by unfold pblk; rw [List.map_map]; rfl
theorem key_or {p : Int} (h0 : 0 ≤ p) (h1 : p < 1048576) : bitop .or .u64 (p / 65536 * 65536) (p % 65536) = p := by
  obtain ⟨k, rfl⟩ : ∃ k : Nat, p = (k : Int) := ⟨p.toNat, by omega⟩
  have h2 := bitop_or_u64 (a := k / 65536 * 65536) (b := k % 65536) (by omega) (by omega)
  have e1 : ((k / 65536 * 65536 : Nat) : Int) = (k : Int) / 65536 * 65536 := by omega
  have e2 : ((k % 65536 : Nat) : Int) = (k : Int) % 65536 := by omega
  rw [e1, e2] at h2
  rw [h2, Nat.mul_comm, show (65536 : Nat) = 2 ^ 16 from rfl, ← Nat.two_pow_add_eq_or_of_lt (Nat.mod_lt _ (by decide)), Nat.div_add_mod]
set_option maxHeartbeats 8000000
attribute [local irreducible] X XE XO XD XDi XDa PV RV DV pt base Spec Sl Mp Keeps Pgs Spc MpI MpL
theorem number_spec (p : Int) (h0 : 0 ≤ p) (h1 : p < 1048576) : Spec Tryz.prog 123 [keyV p] [] (fun v L => v = .int .u64 p ∧ L = []) := by
  refine Spec.intro (IsEnt.out) Tryz.func123 rfl Tryz.ntmps123 (by simp) (fun w0 F => ?_)
  simp only [envOf, List.zipIdx, List.map, List.cons_append, List.nil_append, Nat.zero_add, Nat.reduceAdd]
  unfold keyV
  repeat (first | refine Zq ?_ | refine Zs ?_ | refine ZT ?_ | refine ZF ?_ | refine Zc ?_ | refine XO_gU (hk := ?_))
  refine XO_dv (dv_box (row := [.int .u16 (p / 65536), .int .u16 (p % 65536)])) (hk := ?_)
  rintro _ _ ⟨cb, rfl, rfl⟩
  repeat (first | refine Zq ?_ | refine Zs ?_ | refine ZT ?_ | refine ZF ?_ | refine Zc ?_ | refine XO_gU (hk := ?_))
  refine XO_pv (pv_shlN (r := p / 65536 * 65536) (hw := by show IntKind.u64.wrap (p / 65536 * 65536) = _; exact wrap_u64 (by omega) (by omega))) (hk := ?_)
  repeat (first | refine Zq ?_ | refine Zs ?_ | refine ZT ?_ | refine ZF ?_ | refine Zc ?_ | refine XO_gU (hk := ?_))
  refine XE_ret (.inl rfl) (tells_tmps rfl rfl) ⟨_, ⟨?_, rfl⟩, by ((try simp only [List.cons_append, List.nil_append]); repeat (first | exact ent_refl | refine ent_take (by repeat (first | exact Find.here | apply Find.there)) ?_ | refine ent_drop ?_))⟩
  exact congrArg (Value.int .u64) (key_or h0 h1)
def zeroV (sb : Nat) (P : Int) (m : Mm) (at_ n : Int) : Value → List HP → Prop :=
  if at_ + n ≤ P * 4096 then fun v L => v = .int .i64 0 ∧ L = [Spc sb P (zzM m at_ n)] else fun v L => v = .int .i64 3 ∧ L = [Spc sb P m]
theorem Zero_spec (sb : Nat) (P : Int) (m : Mm) (at_ n : Int) (hP0 : 0 ≤ P) (hP : P ≤ 1048576) (h0 : 0 ≤ at_) (h1 : at_ ≤ 18446744073709551615) (h2 : 0 ≤ n) (h3 : n ≤ 18446744073709551615) :
    Spec Tryz.prog 66 [.pointer (some ⟨sb, 0, none⟩), .int .u64 at_, .int .u64 n] [Spc sb P m] (zeroV sb P m at_ n) := by
  refine Spec.intro (IsEnt.out) Tryz.func66 rfl Tryz.ntmps66 (by simp) (fun w0 F => ?_)
  simp only [envOf, List.zipIdx, List.map, List.cons_append, List.nil_append, Nat.zero_add, Nat.reduceAdd]
  repeat (first | refine Zq ?_ | refine Zs ?_ | refine ZT ?_ | refine ZF ?_ | refine Zc ?_ | refine XO_gU (hk := ?_))
  refine XO_call (fits_spec sb P m at_ n n hP0 hP h0 h1 h2 (by omega)) (hk := ?_)
  rintro _ _ ⟨rfl, rfl⟩
  have hfi : fitsI P at_ n n = if at_ + n ≤ P * 4096 then 0 else 3 := by unfold fitsI; split <;> simp
  rw [hfi]
  unfold zeroV
  by_cases hf : at_ + n ≤ P * 4096
  case neg =>
    simp only [if_neg hf]
    repeat (first | refine Zq ?_ | refine Zs ?_ | refine ZT ?_ | refine ZF ?_ | refine Zc ?_ | refine XO_gU (hk := ?_))
    refine X_cond rfl (fun _ => ?_) (fun h => by cases h)
    repeat (first | refine Zq ?_ | refine Zs ?_ | refine ZT ?_ | refine ZF ?_ | refine Zc ?_ | refine XO_gU (hk := ?_))
    refine XE_ret (.inl rfl) (tells_tmps rfl rfl) ⟨_, ⟨rfl, rfl⟩, by ((try simp only [List.cons_append, List.nil_append]); repeat (first | exact ent_refl | refine ent_take (by repeat (first | exact Find.here | apply Find.there)) ?_ | refine ent_drop ?_))⟩
  simp only [if_pos hf]
  repeat (first | refine Zq ?_ | refine Zs ?_ | refine ZT ?_ | refine ZF ?_ | refine Zc ?_ | refine XO_gU (hk := ?_))
  refine X_cond rfl (fun h => by cases h) (fun _ => ?_)
  refine X_open .here Spc.open ?_
  rintro ⟨mb, M⟩ hM
  dsimp only [List.cons_append, List.nil_append] at hM ⊢
  repeat (first | refine Zq ?_ | refine Zs ?_ | refine ZT ?_ | refine ZF ?_ | refine Zc ?_ | refine XO_gU (hk := ?_))
  repeat (first | refine XD_pick (h := ?_) | refine Dq ?_ | refine Ds ?_ | refine XDi_gF (h := ?_) | refine XDi_gU (h := ?_) | refine X_draws (h := ?_))
  refine XD_one (h := ?_)
  refine XDa_dvA (dv_call (touched_spec at_ n h0 h2 (by omega))) (hk := ?_)
  (rintro _ _ ⟨_, ⟨rfl, rfl⟩, rfl⟩; refine ⟨by (repeat (first | exact keeps_nil | exact keeps_fnil | refine keeps_skip (h := ?_) | refine keeps_takeQ (h := ?_))), ?_⟩)
  repeat (first | refine XD_pick (h := ?_) | refine Dq ?_ | refine Ds ?_ | refine XDi_gF (h := ?_) | refine XDi_gU (h := ?_) | refine X_draws (h := ?_))
  refine XD_one (h := ?_)
  refine XDa_dvk0 dv_store (K := _) (hk := ?_)
  rintro _ _ rfl
  refine ⟨by (repeat (first | exact keeps_nil | exact keeps_fnil | refine keeps_skip (h := ?_) | refine keeps_takeQ (h := ?_))), ?_⟩
  (refine XD_end (h := ?_); repeat (first | refine Zq ?_ | refine Zs ?_ | refine ZT ?_ | refine ZF ?_ | refine Zc ?_ | refine XO_gU (hk := ?_)))
  refine XO_fact (A := Mp keyV pgV mb (pblk M)) (by (repeat (first | exact Find.here | apply Find.there))) Mp.nodup (fun hnd => ?_)
  rw [pblk_keys] at hnd
  refine XO_dv (dv_range (ke := keyV) (ve := pgV) (l := pblk M)) (hk := ?_)
  rintro _ _ ⟨r, rfl, rfl⟩
  repeat (first | refine Zq ?_ | refine Zs ?_ | refine ZT ?_ | refine ZF ?_ | refine Zc ?_ | refine XO_gU (hk := ?_))
  have hZ0 := zinv_start (at_ := at_) (n := n) hM hnd
  have htb : tb (M.map fun q => (q.1, q.2.1)) = pblk M := by simp [tb, pblk]
  refine X_loop (ι := List (Int × Nat × List Int) × List (Int × Nat)) (fun q => ZInv P m.f at_ n q.1 q.2) (fun q => [(0, .pointer (some ⟨sb, 0, none⟩)), (1, .int .u64 at_), (2, .int .u64 n), (35, .pointer (some ⟨r, 0, none⟩))])
    (fun q => MpI keyV pgV mb r (pblk q.1) (tb q.2) :: pt sb (.cells [.int .i64 P, .map (some mb), .int .i64 (IntKind.i64.wrap (m.t + touchI at_ n))].toArray 188 (0, 0)) :: Pgs q.1 :: F) (fun q => q.2.length) (M, M.map fun q => (q.1, q.2.1)) hZ0 ?_ (by dsimp only; rw [htb]; ((try simp only [List.cons_append, List.nil_append]); repeat (first | exact ent_refl | refine ent_take (by repeat (first | exact Find.here | apply Find.there)) ?_ | refine ent_drop ?_))) ?_
  · (repeat (first | exact Env.sub_nil _ | refine Env.sub_cons rfl ?_))
  rintro ⟨M', T⟩ hZ
  dsimp only at hZ ⊢
  repeat (first | refine Zq ?_ | refine Zs ?_ | refine ZT ?_ | refine ZF ?_ | refine Zc ?_ | refine XO_gU (hk := ?_))
  refine XO_fact (A := MpI keyV pgV mb r (pblk M') (tb T)) (by (repeat (first | exact Find.here | apply Find.there))) mpi_nd (fun hnd' => ?_)
  rw [pblk_keys] at hnd'
  refine XO_dv (dv_nextL (ke := keyV) (ve := pgV) (l := pblk M') (todo := tb T)) (hk := ?_)
  rintro _ _ (⟨rfl, hT0, rfl⟩ | ⟨t1, z, t2, ht, rfl, rfl⟩)
  · refine XO_conv (fun _ => SL.head MpI.done) ?_
    have hT : T = [] := by cases T with
      | nil => rfl
      | cons => simp [tb] at hT0
    subst hT
    repeat (first | refine Zq ?_ | refine Zs ?_ | refine ZT ?_ | refine ZF ?_ | refine Zc ?_ | refine XO_gU (hk := ?_))
    refine X_cond rfl (fun h => by cases h) (fun _ => ?_)
    repeat (first | refine Zq ?_ | refine Zs ?_ | refine ZT ?_ | refine ZF ?_ | refine Zc ?_ | refine XO_gU (hk := ?_))
    refine XE_fold (by repeat (first | exact FindAll.nil | exact Find.here | apply Find.there | apply FindAll.cons)) (Spc.fold (zinv_end hZ hM.byt)) ?_
    refine XE_ret (.inl rfl) (tells_tmps rfl rfl) ⟨_, ⟨rfl, rfl⟩, by ((try simp only [List.cons_append, List.nil_append]); repeat (first | exact ent_refl | refine ent_take (by repeat (first | exact Find.here | apply Find.there)) ?_ | refine ent_drop ?_))⟩
  · obtain ⟨T1, z', T2, hTz, ht1, hz, ht2⟩ : ∃ T1 z' T2, T = T1 ++ z' :: T2 ∧ t1 = tb T1 ∧ z = (z'.1, some z'.2) ∧ t2 = tb T2 := by
      unfold tb at ht
      obtain ⟨T1, T3, h1, h2, h3⟩ := List.map_eq_append_iff.1 ht
      obtain ⟨z', T2, h4, h5, h6⟩ := List.map_eq_cons_iff.1 h3
      exact ⟨T1, z', T2, by rw [h1, h4], h2.symm, h5.symm, h6.symm⟩
    subst hTz ht1 hz ht2
    obtain ⟨p, b⟩ := z'
    obtain ⟨ys, hys⟩ := hZ.sub (p, b) (by simp)
    obtain ⟨M1, M2, rfl⟩ := List.append_of_mem hys
    have hn : lk M1 p = none := by
      rw [List.map_append, List.map_cons, List.nodup_append] at hnd'
      exact lk_none.2 fun hp => hnd'.2.2 p hp p (by simp) rfl
    obtain ⟨hp0, hp1, hyl⟩ := hZ.len (p, b, ys) (by simp)
    have hZ' := zinv_step hZ hn
    simp only at hp0 hp1 hyl
    repeat (first | refine Zq ?_ | refine Zs ?_ | refine ZT ?_ | refine ZF ?_ | refine Zc ?_ | refine XO_gU (hk := ?_))
    refine X_cond rfl (fun _ => ?_) (fun h => by cases h)
    repeat (first | refine Zq ?_ | refine Zs ?_ | refine ZT ?_ | refine ZF ?_ | refine Zc ?_ | refine XO_gU (hk := ?_))
    refine XO_rv (rv_entry (ke := keyV) (ve := pgV)) (hk := ?_)
    refine XO_conv (L' := MpI keyV pgV mb r (pblk (M1 ++ (p, b, ys) :: M2)) (tb T1 ++ tb T2) :: _) (fun _ => SL.head MpL.on) ?_
    repeat (first | refine Zq ?_ | refine Zs ?_ | refine ZT ?_ | refine ZF ?_ | refine Zc ?_ | refine XO_gU (hk := ?_))
    refine XO_dv (dv_alloc (row := [.int .u16 0, .int .u16 0])) (hk := ?_)
    rintro _ _ ⟨cb, rfl, rfl⟩
    refine XO_dv0 (dv_storeW (vs := [.int .u16 (p / 65536), .int .u16 (p % 65536)])) (hk := ?_)
    rintro _ _ rfl
    repeat (first | refine Zq ?_ | refine Zs ?_ | refine ZT ?_ | refine ZF ?_ | refine Zc ?_ | refine XO_gU (hk := ?_))
    refine XO_call (number_spec p hp0 (by omega)) (hk := ?_)
    rintro _ _ ⟨rfl, rfl⟩
    repeat (first | refine Zq ?_ | refine Zs ?_ | refine ZT ?_ | refine ZF ?_ | refine Zc ?_ | refine XO_gU (hk := ?_))
    have hle : (T1 ++ T2).length < (T1 ++ (p, b) :: T2).length := by simp
    refine X_cond rfl (fun h4 => ?_) (fun h4 => ?_) <;> simp only [decide_eq_true_eq, decide_eq_false_iff_not] at h4
    · repeat (first | refine Zq ?_ | refine Zs ?_ | refine ZT ?_ | refine ZF ?_ | refine Zc ?_ | refine XO_gU (hk := ?_))
      have e : zpage at_ n p ys = ys := by unfold zpage; rw [if_pos h4]
      rw [e] at hZ'
      exact X_round (M1 ++ (p, b, ys) :: M2, T1 ++ T2) hZ' hle (by (repeat (first | exact Env.sub_nil _ | refine Env.sub_cons rfl ?_))) (by dsimp only; rw [tb_app]; ((try simp only [List.cons_append, List.nil_append]); repeat (first | exact ent_refl | refine ent_take (by repeat (first | exact Find.here | apply Find.there)) ?_ | refine ent_drop ?_)))
    · repeat (first | refine Zq ?_ | refine Zs ?_ | refine ZT ?_ | refine ZF ?_ | refine Zc ?_ | refine XO_gU (hk := ?_))
      refine X_cond rfl (fun h5 => ?_) (fun h5 => ?_)
      · simp only [beq_iff_eq] at h5
        have hn2 : lk (M1 ++ M2) p = none := by
          rw [List.map_append, List.map_cons, List.nodup_append, List.nodup_cons] at hnd'
          refine lk_none.2 fun hp => ?_
          rw [List.map_append, List.mem_append] at hp
          rcases hp with hp | hp
          · exact hnd'.2.2 p hp p (by simp) rfl
          · exact hnd'.2.1.1 hp
        have hZd := zinv_del hZ hn2 (by omega)
        have hnt : p ∉ (tb T1 ++ tb T2).map (·.1) := by
          have h6 := hZ.nd
          rw [List.map_append, List.map_cons, List.nodup_append, List.nodup_cons] at h6
          have e : ∀ T : List (Int × Nat), (tb T).map (·.1) = T.map (·.1) := fun T => by simp [tb]
          rw [List.map_append, e, e, List.mem_append]
          rintro (hp | hp)
          · exact h6.2.2 p hp p (by simp) rfl
          · exact h6.2.1.1 hp
        repeat (first | refine Zq ?_ | refine Zs ?_ | refine ZT ?_ | refine ZF ?_ | refine Zc ?_ | refine XO_gU (hk := ?_))
        repeat (first | refine XD_pick (h := ?_) | refine Dq ?_ | refine Ds ?_ | refine XDi_gF (h := ?_) | refine XDi_gU (h := ?_) | refine X_draws (h := ?_))
        refine XD_one (h := ?_)
        refine XDa_dvk0 (dv_deleteI (ke := keyV) (ve := pgV) p (ht := tk_page) (hnt := hnt)) (K := _) (hk := ?_)
        rintro _ _ rfl
        refine ⟨by (repeat (first | exact keeps_nil | exact keeps_fnil | refine keeps_skip (h := ?_) | refine keeps_takeQ (h := ?_))), ?_⟩
        (refine XD_end (h := ?_); repeat (first | refine Zq ?_ | refine Zs ?_ | refine ZT ?_ | refine ZF ?_ | refine Zc ?_ | refine XO_gU (hk := ?_)))
        have hdl : del (pblk (M1 ++ (p, b, ys) :: M2)) p = pblk (M1 ++ M2) := by
          unfold pblk
          rw [List.map_append, List.map_cons, List.map_append]
          exact del_split (by rw [lk_map (fun q : Nat × List Int => some q.1) p M1, hn]; rfl)
        rw [hdl]
        refine XE_open (A := Pgs (M1 ++ (p, b, ys) :: M2)) (by (repeat (first | exact Find.here | apply Find.there))) Pgs.out ?_
        rintro ⟨⟩ -
        dsimp only [List.cons_append, List.nil_append]
        exact X_round (M1 ++ M2, T1 ++ T2) hZd hle (by (repeat (first | exact Env.sub_nil _ | refine Env.sub_cons rfl ?_))) (by dsimp only; rw [tb_app]; ((try simp only [List.cons_append, List.nil_append]); repeat (first | exact ent_refl | refine ent_take (by repeat (first | exact Find.here | apply Find.there)) ?_ | refine ent_drop ?_)))
      refine X_open (A := Pgs (M1 ++ (p, b, ys) :: M2)) (by (repeat (first | exact Find.here | apply Find.there))) Pgs.out ?_
      rintro ⟨⟩ -
      dsimp only [List.cons_append, List.nil_append]
      repeat (first | refine Zq ?_ | refine Zs ?_ | refine ZT ?_ | refine ZF ?_ | refine Zc ?_ | refine XO_gU (hk := ?_))
      refine XO_pv pv_sliceArrLH (hk := ?_)
      obtain ⟨lo, hlo⟩ : ∃ lo, lo = (max at_ (p * 4096) - p * 4096).toNat := ⟨_, rfl⟩
      obtain ⟨w, hw⟩ : ∃ w, w = (min (at_ + n) (p * 4096 + 4096) - max at_ (p * 4096)).toNat := ⟨_, rfl⟩
      have hfit : lo + w ≤ ys.length := by omega
      refine XO_dv0 (dv_clearAt (kk := .u8) (b := b) (o := 0) (i := lo) (m := w) (c2 := 4096 - lo) (c := 4096) (xs := ys)
        (hx := by
          show some (Value.slice (subA (some ⟨b, 0, none⟩) (max at_ (p * 4096) - p * 4096).toNat 4096 1) ((min (at_ + n) (p * 4096 + 4096) - p * 4096).toNat - (max at_ (p * 4096) - p * 4096).toNat) (4096 - (max at_ (p * 4096) - p * 4096).toNat)) = _
          rw [subA_lt (by omega), ← hlo, show (min (at_ + n) (p * 4096 + 4096) - p * 4096).toNat - lo = w from by omega, Nat.mul_one]) (hm := hfit)) (hk := ?_)
      rintro _ _ rfl
      repeat (first | refine Zq ?_ | refine Zs ?_ | refine ZT ?_ | refine ZF ?_ | refine Zc ?_ | refine XO_gU (hk := ?_))
      have e : zpage at_ n p ys = ys.take lo ++ (List.replicate w 0 ++ ys.drop (lo + w)) := by
        unfold zpage cutIn
        rw [if_neg h4, List.length_replicate, ← hlo, ← hw]
      rw [e] at hZ'
      refine XE_fold (by repeat (first | exact FindAll.nil | exact Find.here | apply Find.there | apply FindAll.cons)) (Pgs.back (p := p) (b := b) (xs := ys.take lo ++ (List.replicate w 0 ++ ys.drop (lo + w))) (M1 := M1) (M2 := M2)) ?_
      rw [show pblk (M1 ++ (p, b, ys) :: M2) = pblk (M1 ++ (p, b, ys.take lo ++ (List.replicate w 0 ++ ys.drop (lo + w))) :: M2) from by simp [pblk]]
      exact X_round (M1 ++ (p, b, ys.take lo ++ (List.replicate w 0 ++ ys.drop (lo + w))) :: M2, T1 ++ T2) hZ' hle (by (repeat (first | exact Env.sub_nil _ | refine Env.sub_cons rfl ?_))) (by dsimp only; rw [tb_app]; ((try simp only [List.cons_append, List.nil_append]); repeat (first | exact ent_refl | refine ent_take (by repeat (first | exact Find.here | apply Find.there)) ?_ | refine ent_drop ?_)))
end Go.Proofs.YtamecmklcnohjaaGreat.Sep
namespace Go.Proofs.YtamecmklcnohjaaGreat.Sep
open Go.RowKit
set_option linter.unusedSimpArgs false
set_option linter.unusedVariables false
/-! headers that are taken away; pieces that are joined -/
def clearV (sb : Nat) (P : Int) (m : Mm) (page : Int) : Value → List HP → Prop :=
  if (readI P m.f page).2 = 0 then fun v L => v = .int .i64 0 ∧ L = [Spc sb P (zzM (hrM P m page) (page * 4096) 32)] else fun v L => v = .int .i64 (readI P m.f page).2 ∧ L = [Spc sb P (hrM P m page)]
theorem readI_in {P : Int} {m : Int → Int} {page : Int} (h : (readI P m page).2 = 0) : 0 ≤ page ∧ page < P := by
  by_cases hin : 0 ≤ page ∧ page < P
  · exact hin
  · unfold readI at h
    rw [if_neg hin] at h
    exact absurd h (by decide)
set_option maxHeartbeats 8000000
attribute [local irreducible] X XE XO XD XDi XDa PV RV DV pt base Spec Sl Mp Keeps Pgs Spc
theorem hclear_spec (sb : Nat) (P : Int) (m : Mm) (page : Int) (h0 : 0 ≤ P) (h1 : P ≤ 1048576) : Spec Tryz.prog 191 [.pointer (some ⟨sb, 0, none⟩), .int .i64 page] [Spc sb P m] (clearV sb P m page) := by
  refine Spec.intro (IsEnt.out) Tryz.func191 rfl Tryz.ntmps191 (by simp) (fun w0 F => ?_)
  simp only [envOf, List.zipIdx, List.map, List.cons_append, List.nil_append, Nat.zero_add, Nat.reduceAdd]
  repeat (first | refine Zq ?_ | refine Zs ?_ | refine ZT ?_ | refine ZF ?_ | refine Zc ?_ | refine XO_gU (hk := ?_))
  refine XO_call (hread_spec sb P m page h0 h1) (hk := ?_)
  rintro _ _ ⟨rfl, rfl⟩
  repeat (first | refine Zq ?_ | refine Zs ?_ | refine ZT ?_ | refine ZF ?_ | refine Zc ?_ | refine XO_gU (hk := ?_))
  refine XO_dv (dv_alloc (row := [.int .i64 0, .int .i64 0, .int .u64 0, .int .u64 0])) (hk := ?_)
  rintro _ _ ⟨hb, rfl, rfl⟩
  refine XO_dv0 (dv_storeW (vs := [.int .i64 (readI P m.f page).1.pages, .int .i64 (readI P m.f page).1.kind, .int .u64 (readI P m.f page).1.owner, .int .u64 (readI P m.f page).1.next])) (hk := ?_)
  rintro _ _ rfl
  repeat (first | refine Zq ?_ | refine Zs ?_ | refine ZT ?_ | refine ZF ?_ | refine Zc ?_ | refine XO_gU (hk := ?_))
  unfold clearV
  by_cases hz : (readI P m.f page).2 = 0
  · obtain ⟨p0, p1⟩ := readI_in hz
    rw [if_pos hz, hz]
    refine X_cond rfl (fun h => by cases h) (fun _ => ?_)
    repeat (first | refine Zq ?_ | refine Zs ?_ | refine ZT ?_ | refine ZF ?_ | refine Zc ?_ | refine XO_gU (hk := ?_))
    refine XO_call (hat_spec sb P (hrM P m page) page h0 h1) (hk := ?_)
    rintro _ _ ⟨rfl, rfl⟩
    rw [show hatI P page = page * 4096 from by unfold hatI; rw [if_pos ⟨p0, p1⟩]]
    repeat (first | refine Zq ?_ | refine Zs ?_ | refine ZT ?_ | refine ZF ?_ | refine Zc ?_ | refine XO_gU (hk := ?_))
    refine XO_call (Zero_spec sb P (hrM P m page) (page * 4096) 32 h0 h1 (by omega) (by omega) (by omega) (by omega)) (hk := ?_)
    unfold zeroV
    rw [if_pos (show page * 4096 + 32 ≤ P * 4096 by omega)]
    rintro _ _ ⟨rfl, rfl⟩
    repeat (first | refine Zq ?_ | refine Zs ?_ | refine ZT ?_ | refine ZF ?_ | refine Zc ?_ | refine XO_gU (hk := ?_))
    refine XE_ret (.inl rfl) (tells_tmps rfl rfl) ⟨_, ⟨rfl, rfl⟩, by ((try simp only [List.cons_append, List.nil_append]); repeat (first | exact ent_refl | refine ent_take (by repeat (first | exact Find.here | apply Find.there)) ?_ | refine ent_drop ?_))⟩
  · rw [if_neg hz]
    refine X_cond rfl (fun _ => ?_) (fun h => ?_)
    · repeat (first | refine Zq ?_ | refine Zs ?_ | refine ZT ?_ | refine ZF ?_ | refine Zc ?_ | refine XO_gU (hk := ?_))
      refine XE_ret (.inl rfl) (tells_tmps rfl rfl) ⟨_, ⟨rfl, rfl⟩, by ((try simp only [List.cons_append, List.nil_append]); repeat (first | exact ent_refl | refine ent_take (by repeat (first | exact Find.here | apply Find.there)) ?_ | refine ent_drop ?_))⟩
    · exact absurd (by simpa using h) hz
/-- A slice of slices of bytes. -/
def eSl : E (Option Addr × Nat × Nat) := ⟨1, false, fun x => [.slice x.1 x.2.1 x.2.2], fun _ => rfl, fun _ _ h => by simp at h; subst h; rfl, by decide, fun _ => rfl⟩
end Go.Proofs.YtamecmklcnohjaaGreat.Sep
namespace Go.Proofs.YtamecmklcnohjaaGreat.Sep
open Go.RowKit
set_option linter.unusedSimpArgs false
set_option linter.unusedVariables false
set_option maxHeartbeats 8000000
attribute [local irreducible] X XE XO XD XDi XDa PV RV DV pt base Spec Sl Mp Keeps

/-! ### lists of runs -/
def eRun : E (Int × Int) := ⟨2, true, fun p => [.int .i64 p.1, .int .i64 p.2], fun _ => rfl, fun _ _ h => by simp at h; rcases h with rfl | rfl <;> rfl, by decide, fun h => by cases h⟩
/-- Runs that lie within the pages that may be. -/
def Bd (xs : List (Int × Int)) : Prop := ∀ r ∈ xs, 0 ≤ r.1 ∧ 0 ≤ r.2 ∧ r.1 + r.2 ≤ 1048576
def less (xs : List (Int × Int)) (i : Nat) : Option Nat → Bool
  | none => true
  | some j => decide ((xs.getD i (0, 0)).2 < (xs.getD j (0, 0)).2)
def bestU (xs : List (Int × Int)) (n : Int) : Nat → Option Nat
  | 0 => none
  | i + 1 => if 0 < n ∧ n ≤ (xs.getD i (0, 0)).2 ∧ less xs i (bestU xs n i) = true then some i else bestU xs n i
def optI : Option Nat → Int
  | none => -1
  | some i => i
theorem bestU_lt {xs : List (Int × Int)} {n : Int} : ∀ {i j : Nat}, bestU xs n i = some j → j < i
  | 0, j, h => by cases h
  | i + 1, j, h => by
    unfold bestU at h
    split at h
    · cases h; omega
    · have := bestU_lt h; omega
theorem end_spec (p n : Int) (h1 : 0 ≤ p) (h2 : 0 ≤ n) (h3 : p + n ≤ 4611686018427387904) : Spec Tryz.prog 170 [.agg #[.int .i64 p, .int .i64 n]] [] (fun v L => v = .int .i64 (p + n) ∧ L = []) := by
  refine Spec.intro (IsEnt.out) Tryz.func170 rfl Tryz.ntmps170 (by simp) (fun w0 F => ?_)
  simp only [envOf, List.zipIdx, List.map, List.cons_append, List.nil_append, Nat.zero_add, Nat.reduceAdd]
  repeat (first | refine Zq ?_ | refine Zs ?_ | refine ZT ?_ | refine ZF ?_ | refine Zc ?_ | refine XO_gU (hk := ?_))
  refine XO_dv dv_box (hk := ?_)
  rintro _ _ ⟨b1, rfl, rfl⟩
  repeat (first | refine Zq ?_ | refine Zs ?_ | refine ZT ?_ | refine ZF ?_ | refine Zc ?_ | refine XO_gU (hk := ?_))
  refine XE_ret (.inl rfl) (tells_tmps rfl rfl) ⟨_, ⟨rfl, rfl⟩, by ((try simp only [List.cons_append, List.nil_append]); repeat (first | exact ent_refl | refine ent_take (by repeat (first | exact Find.here | apply Find.there)) ?_ | refine ent_drop ?_))⟩
theorem best_spec (A : HP) (a : Option Addr) (c : Nat) (xs : List (Int × Int)) (n : Int) (hV : View A eRun a xs) (hl : xs.length ≤ 4611686018427387904) :
    Spec Tryz.prog 189 [.slice a xs.length c, .int .i64 n] [A] (fun v L => v = .int .i64 (optI (bestU xs n xs.length)) ∧ L = [A]) := by
  refine Spec.intro (IsEnt.out) Tryz.func189 rfl Tryz.ntmps189 (by simp) (fun w0 F => ?_)
  simp only [envOf, List.zipIdx, List.map, List.cons_append, List.nil_append, Nat.zero_add, Nat.reduceAdd]
  repeat (first | refine Zq ?_ | refine Zs ?_ | refine ZT ?_ | refine ZF ?_ | refine Zc ?_ | refine XO_gU (hk := ?_))
  refine X_loop (ι := Nat) (fun k => k ≤ xs.length) (fun k => [(0, .slice a xs.length c), (1, .int .i64 n), (8, .slice a xs.length c), (9, .int .i64 (xs.length : Int)), (10, .int .i64 k), (5, .int .i64 (optI (bestU xs n k)))]) (fun _ => A :: F) (fun k => xs.length - k) 0 (Nat.zero_le _) ?_ (by ((try simp only [List.cons_append, List.nil_append]); repeat (first | exact ent_refl | refine ent_take (by repeat (first | exact Find.here | apply Find.there)) ?_ | refine ent_drop ?_))) ?_
  · (repeat (first | exact Env.sub_nil _ | refine Env.sub_cons rfl ?_))
  intro k hk
  dsimp only at hk ⊢
  repeat (first | refine Zq ?_ | refine Zs ?_ | refine ZT ?_ | refine ZF ?_ | refine Zc ?_ | refine XO_gU (hk := ?_))
  refine X_cond rfl (fun hc => ?_) (fun hc => ?_) <;> simp only [decide_eq_true_eq, decide_eq_false_iff_not] at hc
  · have hkl : k < xs.length := by omega
    refine X_view .here hV (by omega) ?_
    rintro b o rfl
    repeat (first | refine Zq ?_ | refine Zs ?_ | refine ZT ?_ | refine ZF ?_ | refine Zc ?_ | refine XO_gU (hk := ?_))
    refine XO_rv (rv_vel (i := k) (hV := hV)) (hk := ?_)
    repeat (first | refine Zq ?_ | refine Zs ?_ | refine ZT ?_ | refine ZF ?_ | refine Zc ?_ | refine XO_gU (hk := ?_))
    refine XO_dv dv_alloc (hk := ?_)
    rintro _ _ ⟨cb, rfl, rfl⟩
    repeat (first | refine Zq ?_ | refine Zs ?_ | refine ZT ?_ | refine ZF ?_ | refine Zc ?_ | refine XO_gU (hk := ?_))
    refine XO_dv0 dv_storeW (hk := ?_)
    rintro _ _ rfl
    repeat (first | refine Zq ?_ | refine Zs ?_ | refine ZT ?_ | refine ZF ?_ | refine Zc ?_ | refine XO_gU (hk := ?_))
    have hgk : xs.getD k (0, 0) = xs[k] := by simp [List.getD, hkl]
    repeat (first | refine XD_pick (h := ?_) | refine Dq ?_ | refine Ds ?_ | refine XDi_gF (h := ?_) | refine XDi_gU (h := ?_) | refine X_draws (h := ?_))
    refine XDi_either (hT := fun h => ?_) (hF := fun h => ?_) <;> simp only [decide_eq_true_eq, decide_eq_false_iff_not] at h
    · repeat (first | refine XD_pick (h := ?_) | refine Dq ?_ | refine Ds ?_ | refine XDi_gF (h := ?_) | refine XDi_gU (h := ?_) | refine X_draws (h := ?_))
      refine XDi_either (hT := fun h2 => ?_) (hF := fun h2 => ?_) <;> simp only [decide_eq_true_eq, decide_eq_false_iff_not] at h2
      · cases hb : bestU xs n k with
        | none =>
          have hb1 : bestU xs n (k + 1) = some k := by unfold bestU; rw [if_pos ⟨h, by rw [hgk]; exact h2, by rw [hb]; rfl⟩]
          repeat (first | refine XD_pick (h := ?_) | refine Dq ?_ | refine Ds ?_ | refine XDi_gF (h := ?_) | refine XDi_gU (h := ?_) | refine X_draws (h := ?_))
          refine XD_end (h := ?_)
          repeat (first | refine Zq ?_ | refine Zs ?_ | refine ZT ?_ | refine ZF ?_ | refine Zc ?_ | refine XO_gU (hk := ?_))
          refine X_cond rfl (fun _ => ?_) (fun h => by cases h)
          repeat (first | refine Zq ?_ | refine Zs ?_ | refine ZT ?_ | refine ZF ?_ | refine Zc ?_ | refine XO_gU (hk := ?_))
          refine X_round (k + 1) (by show k + 1 ≤ _; omega) (by show xs.length - (k + 1) < xs.length - k; omega) (by rw [hb1]; (repeat (first | exact Env.sub_nil _ | refine Env.sub_cons rfl ?_))) (by ((try simp only [List.cons_append, List.nil_append]); repeat (first | exact ent_refl | refine ent_take (by repeat (first | exact Find.here | apply Find.there)) ?_ | refine ent_drop ?_)))
        | some j =>
          have hj := bestU_lt hb
          have hjl : j < xs.length := by omega
          have hgj : xs.getD j (0, 0) = xs[j] := by simp [List.getD, hjl]
          repeat (first | refine XD_pick (h := ?_) | refine Dq ?_ | refine Ds ?_ | refine XDi_gF (h := ?_) | refine XDi_gU (h := ?_) | refine X_draws (h := ?_))
          refine XDi_known false (hb := decide_eq_false (by show ¬ (j : Int) < 0; omega)) (hT := ?_)
          repeat (first | refine XD_pick (h := ?_) | refine Dq ?_ | refine Ds ?_ | refine XDi_gF (h := ?_) | refine XDi_gU (h := ?_) | refine X_draws (h := ?_))
          refine XDi_pvA (pv_index (iv := j)) (h := ?_)
          repeat (first | refine XD_pick (h := ?_) | refine Dq ?_ | refine Ds ?_ | refine XDi_gF (h := ?_) | refine XDi_gU (h := ?_) | refine X_draws (h := ?_))
          refine XDi_rvA (rv_velf (i := j) (f := 1) (hV := hV)) (h := ?_)
          repeat (first | refine XD_pick (h := ?_) | refine Dq ?_ | refine Ds ?_ | refine XDi_gF (h := ?_) | refine XDi_gU (h := ?_) | refine X_draws (h := ?_))
          refine XD_end (h := ?_)
          repeat (first | refine Zq ?_ | refine Zs ?_ | refine ZT ?_ | refine ZF ?_ | refine Zc ?_ | refine XO_gU (hk := ?_))
          refine X_cond rfl (fun h3 => ?_) (fun h3 => ?_) <;> simp only [decide_eq_true_eq, decide_eq_false_iff_not] at h3
          · have hb1 : bestU xs n (k + 1) = some k := by unfold bestU; rw [if_pos ⟨h, by rw [hgk]; exact h2, by rw [hb]; show decide _ = true; rw [hgk, hgj]; exact decide_eq_true h3⟩]
            repeat (first | refine Zq ?_ | refine Zs ?_ | refine ZT ?_ | refine ZF ?_ | refine Zc ?_ | refine XO_gU (hk := ?_))
            refine X_round (k + 1) (by show k + 1 ≤ _; omega) (by show xs.length - (k + 1) < xs.length - k; omega) (by rw [hb1]; (repeat (first | exact Env.sub_nil _ | refine Env.sub_cons rfl ?_))) (by ((try simp only [List.cons_append, List.nil_append]); repeat (first | exact ent_refl | refine ent_take (by repeat (first | exact Find.here | apply Find.there)) ?_ | refine ent_drop ?_)))
          · have hb1 : bestU xs n (k + 1) = some j := by rw [bestU, if_neg (fun h' => h3 (by have := h'.2.2; rw [hb] at this; have this : decide ((xs.getD k (0, 0)).2 < (xs.getD j (0, 0)).2) = true := this; rw [hgk, hgj] at this; exact of_decide_eq_true this)), hb]
            repeat (first | refine Zq ?_ | refine Zs ?_ | refine ZT ?_ | refine ZF ?_ | refine Zc ?_ | refine XO_gU (hk := ?_))
            refine X_round (k + 1) (by show k + 1 ≤ _; omega) (by show xs.length - (k + 1) < xs.length - k; omega) (by rw [hb1]; (repeat (first | exact Env.sub_nil _ | refine Env.sub_cons rfl ?_))) (by ((try simp only [List.cons_append, List.nil_append]); repeat (first | exact ent_refl | refine ent_take (by repeat (first | exact Find.here | apply Find.there)) ?_ | refine ent_drop ?_)))
      · have hb1 : bestU xs n (k + 1) = bestU xs n k := by rw [bestU, if_neg (fun h' => h2 (by rw [← hgk]; exact h'.2.1))]
        repeat (first | refine XD_pick (h := ?_) | refine Dq ?_ | refine Ds ?_ | refine XDi_gF (h := ?_) | refine XDi_gU (h := ?_) | refine X_draws (h := ?_))
        refine XD_end (h := ?_)
        repeat (first | refine Zq ?_ | refine Zs ?_ | refine ZT ?_ | refine ZF ?_ | refine Zc ?_ | refine XO_gU (hk := ?_))
        refine X_cond rfl (fun h => by cases h) (fun _ => ?_)
        repeat (first | refine Zq ?_ | refine Zs ?_ | refine ZT ?_ | refine ZF ?_ | refine Zc ?_ | refine XO_gU (hk := ?_))
        refine X_round (k + 1) (by show k + 1 ≤ _; omega) (by show xs.length - (k + 1) < xs.length - k; omega) (by rw [hb1]; (repeat (first | exact Env.sub_nil _ | refine Env.sub_cons rfl ?_))) (by ((try simp only [List.cons_append, List.nil_append]); repeat (first | exact ent_refl | refine ent_take (by repeat (first | exact Find.here | apply Find.there)) ?_ | refine ent_drop ?_)))
    · have hb1 : bestU xs n (k + 1) = bestU xs n k := by rw [bestU, if_neg (fun h' => h h'.1)]
      repeat (first | refine XD_pick (h := ?_) | refine Dq ?_ | refine Ds ?_ | refine XDi_gF (h := ?_) | refine XDi_gU (h := ?_) | refine X_draws (h := ?_))
      refine XD_end (h := ?_)
      repeat (first | refine Zq ?_ | refine Zs ?_ | refine ZT ?_ | refine ZF ?_ | refine Zc ?_ | refine XO_gU (hk := ?_))
      refine X_cond rfl (fun h => by cases h) (fun _ => ?_)
      repeat (first | refine Zq ?_ | refine Zs ?_ | refine ZT ?_ | refine ZF ?_ | refine Zc ?_ | refine XO_gU (hk := ?_))
      refine X_round (k + 1) (by show k + 1 ≤ _; omega) (by show xs.length - (k + 1) < xs.length - k; omega) (by rw [hb1]; (repeat (first | exact Env.sub_nil _ | refine Env.sub_cons rfl ?_))) (by ((try simp only [List.cons_append, List.nil_append]); repeat (first | exact ent_refl | refine ent_take (by repeat (first | exact Find.here | apply Find.there)) ?_ | refine ent_drop ?_)))
  · obtain rfl : k = xs.length := by omega
    repeat (first | refine Zq ?_ | refine Zs ?_ | refine ZT ?_ | refine ZF ?_ | refine Zc ?_ | refine XO_gU (hk := ?_))
    refine XE_ret (.inl rfl) (tells_tmps rfl rfl) ⟨_, ⟨rfl, rfl⟩, by ((try simp only [List.cons_append, List.nil_append]); repeat (first | exact ent_refl | refine ent_take (by repeat (first | exact Find.here | apply Find.there)) ?_ | refine ent_drop ?_))⟩
/-- The place of the first run that doesn't end ahead of a page. -/
def afterI (xs : List (Int × Int)) (p : Int) : Nat := xs.findIdx (fun r => decide (p ≤ r.1 + r.2))
theorem after_spec (A : HP) (a : Option Addr) (c : Nat) (xs : List (Int × Int)) (p : Int) (hV : View A eRun a xs) (hl : xs.length ≤ 4611686018427387904) (hB : Bd xs) :
    Spec Tryz.prog 169 [.slice a xs.length c, .int .i64 p] [A] (fun v L => v = .int .i64 (afterI xs p : Int) ∧ L = [A]) := by
  refine Spec.intro (IsEnt.out) Tryz.func169 rfl Tryz.ntmps169 (by simp) (fun w0 F => ?_)
  simp only [envOf, List.zipIdx, List.map, List.cons_append, List.nil_append, Nat.zero_add, Nat.reduceAdd]
  repeat (first | refine Zq ?_ | refine Zs ?_ | refine ZT ?_ | refine ZF ?_ | refine Zc ?_ | refine XO_gU (hk := ?_))
  refine X_loop (ι := Nat) (fun k => k ≤ xs.length ∧ ∀ j (hj : j < xs.length), j < k → xs[j].1 + xs[j].2 < p) (fun k => [(0, .slice a xs.length c), (1, .int .i64 p), (7, .slice a xs.length c), (8, .int .i64 (xs.length : Int)), (9, .int .i64 k)]) (fun _ => A :: F) (fun k => xs.length - k) 0 ⟨Nat.zero_le _, fun _ _ h => by omega⟩ ?_ (by ((try simp only [List.cons_append, List.nil_append]); repeat (first | exact ent_refl | refine ent_take (by repeat (first | exact Find.here | apply Find.there)) ?_ | refine ent_drop ?_))) ?_
  · (repeat (first | exact Env.sub_nil _ | refine Env.sub_cons rfl ?_))
  rintro k ⟨hk, hall⟩
  dsimp only at hk hall ⊢
  repeat (first | refine Zq ?_ | refine Zs ?_ | refine ZT ?_ | refine ZF ?_ | refine Zc ?_ | refine XO_gU (hk := ?_))
  refine X_cond rfl (fun hc => ?_) (fun hc => ?_) <;> simp only [decide_eq_true_eq, decide_eq_false_iff_not] at hc
  · have hkl : k < xs.length := by omega
    refine X_view .here hV (by omega) ?_
    rintro b o rfl
    obtain ⟨g1, g2, g3⟩ := hB xs[k] (List.getElem_mem hkl)
    repeat (first | refine Zq ?_ | refine Zs ?_ | refine ZT ?_ | refine ZF ?_ | refine Zc ?_ | refine XO_gU (hk := ?_))
    refine XO_rv (rv_vel (i := k) (hV := hV)) (hk := ?_)
    repeat (first | refine Zq ?_ | refine Zs ?_ | refine ZT ?_ | refine ZF ?_ | refine Zc ?_ | refine XO_gU (hk := ?_))
    refine XO_dv dv_alloc (hk := ?_)
    rintro _ _ ⟨cb, rfl, rfl⟩
    repeat (first | refine Zq ?_ | refine Zs ?_ | refine ZT ?_ | refine ZF ?_ | refine Zc ?_ | refine XO_gU (hk := ?_))
    refine XO_dv0 dv_storeW (hk := ?_)
    rintro _ _ rfl
    repeat (first | refine Zq ?_ | refine Zs ?_ | refine ZT ?_ | refine ZF ?_ | refine Zc ?_ | refine XO_gU (hk := ?_))
    refine XO_call (end_spec xs[k].1 xs[k].2 g1 g2 (by omega)) (hk := ?_)
    rintro _ _ ⟨rfl, rfl⟩
    repeat (first | refine Zq ?_ | refine Zs ?_ | refine ZT ?_ | refine ZF ?_ | refine Zc ?_ | refine XO_gU (hk := ?_))
    refine X_cond rfl (fun h3 => ?_) (fun h3 => ?_) <;> simp only [decide_eq_true_eq, decide_eq_false_iff_not] at h3
    · have he : afterI xs p = k := by
        unfold afterI
        refine (List.findIdx_eq hkl).2 ⟨by simpa using h3, fun j hj => ?_⟩
        have := hall j (by omega) hj
        simp; omega
      repeat (first | refine Zq ?_ | refine Zs ?_ | refine ZT ?_ | refine ZF ?_ | refine Zc ?_ | refine XO_gU (hk := ?_))
      refine XE_ret (.inl rfl) (tells_tmps rfl rfl) ⟨_, ⟨?_, rfl⟩, by ((try simp only [List.cons_append, List.nil_append]); repeat (first | exact ent_refl | refine ent_take (by repeat (first | exact Find.here | apply Find.there)) ?_ | refine ent_drop ?_))⟩
      rw [he]; rfl
    · repeat (first | refine Zq ?_ | refine Zs ?_ | refine ZT ?_ | refine ZF ?_ | refine Zc ?_ | refine XO_gU (hk := ?_))
      refine X_round (k + 1) ⟨by omega, fun j hj hlt => ?_⟩ (by show xs.length - (k + 1) < xs.length - k; omega) (by (repeat (first | exact Env.sub_nil _ | refine Env.sub_cons rfl ?_))) (by ((try simp only [List.cons_append, List.nil_append]); repeat (first | exact ent_refl | refine ent_take (by repeat (first | exact Find.here | apply Find.there)) ?_ | refine ent_drop ?_)))
      rcases Nat.lt_or_ge j k with h | h
      · exact hall j hj h
      · obtain rfl : j = k := by omega
        omega
  · obtain rfl : k = xs.length := by omega
    have he : afterI xs p = xs.length := by
      unfold afterI
      rw [List.findIdx_eq_length]
      intro x hx
      obtain ⟨j, hj, rfl⟩ := List.getElem_of_mem hx
      have := hall j hj hj
      simp; omega
    repeat (first | refine Zq ?_ | refine Zs ?_ | refine ZT ?_ | refine ZF ?_ | refine Zc ?_ | refine XO_gU (hk := ?_))
    rw [← he]
    refine XE_ret (.inl rfl) (tells_tmps rfl rfl) ⟨_, ⟨rfl, rfl⟩, by ((try simp only [List.cons_append, List.nil_append]); repeat (first | exact ent_refl | refine ent_take (by repeat (first | exact Find.here | apply Find.there)) ?_ | refine ent_drop ?_))⟩
def totI (xs : List (Int × Int)) : Int := (xs.map (·.2)).sum
theorem total_spec (A : HP) (a : Option Addr) (c : Nat) (xs : List (Int × Int)) (hV : View A eRun a xs) (hl : xs.length ≤ 1048576) (hB : Bd xs) :
    Spec Tryz.prog 134 [.slice a xs.length c] [A] (fun v L => v = .int .i64 (totI xs) ∧ L = [A]) := by
  refine Spec.intro (IsEnt.out) Tryz.func134 rfl Tryz.ntmps134 (by simp) (fun w0 F => ?_)
  simp only [envOf, List.zipIdx, List.map, List.cons_append, List.nil_append, Nat.zero_add, Nat.reduceAdd]
  repeat (first | refine Zq ?_ | refine Zs ?_ | refine ZT ?_ | refine ZF ?_ | refine Zc ?_ | refine XO_gU (hk := ?_))
  refine X_loop (ι := Nat) (fun k => k ≤ xs.length) (fun k => [(0, .slice a xs.length c), (6, .slice a xs.length c), (7, .int .i64 (xs.length : Int)), (8, .int .i64 k), (3, .int .i64 (totI (xs.take k)))]) (fun _ => A :: F) (fun k => xs.length - k) 0 (Nat.zero_le _) ?_ (by ((try simp only [List.cons_append, List.nil_append]); repeat (first | exact ent_refl | refine ent_take (by repeat (first | exact Find.here | apply Find.there)) ?_ | refine ent_drop ?_))) ?_
  · (repeat (first | exact Env.sub_nil _ | refine Env.sub_cons rfl ?_))
  intro k hk
  dsimp only at hk ⊢
  repeat (first | refine Zq ?_ | refine Zs ?_ | refine ZT ?_ | refine ZF ?_ | refine Zc ?_ | refine XO_gU (hk := ?_))
  refine X_cond rfl (fun hc => ?_) (fun hc => ?_) <;> simp only [decide_eq_true_eq, decide_eq_false_iff_not] at hc
  · have hkl : k < xs.length := by omega
    refine X_view .here hV (by omega) ?_
    rintro b o rfl
    obtain ⟨g1, g2, g3⟩ := hB xs[k] (List.getElem_mem hkl)
    have hs : totI (xs.take (k + 1)) = totI (xs.take k) + xs[k].2 := by
      unfold totI
      rw [List.take_succ_eq_append_getElem hkl, List.map_append, List.sum_append]; simp
    have hb : ∀ l : List (Int × Int), (∀ r ∈ l, 0 ≤ r.1 ∧ 0 ≤ r.2 ∧ r.1 + r.2 ≤ 1048576) → 0 ≤ totI l ∧ totI l ≤ 1048576 * l.length := by
      intro l
      induction l with
      | nil => intro _; simp [totI]
      | cons r l ih =>
        intro h
        have h1 := h r (by simp)
        have h2 := ih (fun q hq => h q (by simp [hq]))
        have : totI (r :: l) = r.2 + totI l := by simp [totI]
        rw [this]; simp; omega
    have hb1 := hb (xs.take k) (fun r hr => hB r (List.mem_of_mem_take hr))
    have hlk : ((xs.take k).length : Int) ≤ 1048576 := by simp; omega
    repeat (first | refine Zq ?_ | refine Zs ?_ | refine ZT ?_ | refine ZF ?_ | refine Zc ?_ | refine XO_gU (hk := ?_))
    refine XO_rv (rv_vel (i := k) (hV := hV)) (hk := ?_)
    repeat (first | refine Zq ?_ | refine Zs ?_ | refine ZT ?_ | refine ZF ?_ | refine Zc ?_ | refine XO_gU (hk := ?_))
    refine XO_dv dv_alloc (hk := ?_)
    rintro _ _ ⟨cb, rfl, rfl⟩
    repeat (first | refine Zq ?_ | refine Zs ?_ | refine ZT ?_ | refine ZF ?_ | refine Zc ?_ | refine XO_gU (hk := ?_))
    refine XO_dv0 dv_storeW (hk := ?_)
    rintro _ _ rfl
    repeat (first | refine Zq ?_ | refine Zs ?_ | refine ZT ?_ | refine ZF ?_ | refine Zc ?_ | refine XO_gU (hk := ?_))
    refine X_round (k + 1) (by show k + 1 ≤ _; omega) (by show xs.length - (k + 1) < xs.length - k; omega) (by rw [hs]; (repeat (first | exact Env.sub_nil _ | refine Env.sub_cons rfl ?_))) (by ((try simp only [List.cons_append, List.nil_append]); repeat (first | exact ent_refl | refine ent_take (by repeat (first | exact Find.here | apply Find.there)) ?_ | refine ent_drop ?_)))
  · obtain rfl : k = xs.length := by omega
    rw [List.take_length]
    repeat (first | refine Zq ?_ | refine Zs ?_ | refine ZT ?_ | refine ZF ?_ | refine Zc ?_ | refine XO_gU (hk := ?_))
    refine XE_ret (.inl rfl) (tells_tmps rfl rfl) ⟨_, ⟨rfl, rfl⟩, by ((try simp only [List.cons_append, List.nil_append]); repeat (first | exact ent_refl | refine ent_take (by repeat (first | exact Find.here | apply Find.there)) ?_ | refine ent_drop ?_))⟩
end Go.Proofs.YtamecmklcnohjaaGreat.Sep
namespace Go.Proofs.YtamecmklcnohjaaGreat.Sep
open Go.RowKit
set_option linter.unusedSimpArgs false
set_option linter.unusedVariables false
set_option maxHeartbeats 8000000
attribute [local irreducible] X XE XO XD XDi XDa PV RV DV pt base Spec Sl Mp Keeps

/-- Whether a run has one of some pages. -/
def hasB (p n : Int) (r : Int × Int) : Bool := decide (0 < n ∧ (p < 0 ∧ r.1 < p + n ∨ 0 ≤ p ∧ r.1 - p < n) ∧ p < r.1 + r.2)
theorem has1_spec (b1 b2 : Nat) (p n : Int) (r : Int × Int) (h1 : 0 ≤ p) (h2 : p ≤ 1048576) (g1 : 0 ≤ r.1) (g2 : 0 ≤ r.2) (g3 : r.1 + r.2 ≤ 1048576) : Spec Tryz.prog 193 [eRun.val r, .pointer (some ⟨b1, 0, none⟩), .pointer (some ⟨b2, 0, none⟩)] [pt b1 (.cells [.int .i64 p].toArray 3 (0, 0)), pt b2 (.cells [.int .i64 n].toArray 3 (0, 0))]
    (fun v L => v = .bool (hasB p n r) ∧ L = [pt b1 (.cells [.int .i64 p].toArray 3 (0, 0)), pt b2 (.cells [.int .i64 n].toArray 3 (0, 0))]) := by
  refine Spec.intro (IsEnt.out) Tryz.func193 rfl Tryz.ntmps193 (by simp) (fun w0 F => ?_)
  simp only [envOf, List.zipIdx, List.map, List.cons_append, List.nil_append, Nat.zero_add, Nat.reduceAdd]
  repeat (first | refine Zq ?_ | refine Zs ?_ | refine ZT ?_ | refine ZF ?_ | refine Zc ?_ | refine XO_gU (hk := ?_))
  refine XO_dv (dv_box (row := eRun.cells r)) (hk := ?_)
  rintro _ _ ⟨b3, rfl, rfl⟩
  repeat (first | refine Zq ?_ | refine Zs ?_ | refine ZT ?_ | refine ZF ?_ | refine Zc ?_ | refine XO_gU (hk := ?_))
  refine XO_known false (hb := decide_eq_false (by omega)) (hk := ?_)
  repeat (first | refine Zq ?_ | refine Zs ?_ | refine ZT ?_ | refine ZF ?_ | refine Zc ?_ | refine XO_gU (hk := ?_))
  refine XO_known true (hb := decide_eq_true (by omega)) (hk := ?_)
  repeat (first | refine Zq ?_ | refine Zs ?_ | refine ZT ?_ | refine ZF ?_ | refine Zc ?_ | refine XO_gU (hk := ?_))
  have hd1 : (0 ≤ p) := h1
  repeat (first | refine XD_pick (h := ?_) | refine Dq ?_ | refine Ds ?_ | refine XDi_gF (h := ?_) | refine XDi_gU (h := ?_) | refine X_draws (h := ?_))
  refine XDi_either (hT := fun h => ?_) (hF := fun h => ?_) <;> simp only [decide_eq_true_eq, decide_eq_false_iff_not] at h
  · repeat (first | refine XD_pick (h := ?_) | refine Dq ?_ | refine Ds ?_ | refine XDi_gF (h := ?_) | refine XDi_gU (h := ?_) | refine X_draws (h := ?_))
    refine XDi_either (hT := fun h4 => ?_) (hF := fun h4 => ?_) <;> simp only [decide_eq_true_eq, decide_eq_false_iff_not] at h4
    · repeat (first | refine XD_pick (h := ?_) | refine Dq ?_ | refine Ds ?_ | refine XDi_gF (h := ?_) | refine XDi_gU (h := ?_) | refine X_draws (h := ?_))
      refine XD_one (h := ?_)
      refine XDa_dvA (dv_call (end_spec r.1 r.2 g1 g2 (by omega))) (hk := ?_)
      (rintro _ _ ⟨_, ⟨rfl, rfl⟩, rfl⟩; refine ⟨by (repeat (first | exact keeps_nil | exact keeps_fnil | refine keeps_skip (h := ?_) | refine keeps_takeQ (h := ?_))), ?_⟩)
      repeat (first | refine XD_pick (h := ?_) | refine Dq ?_ | refine Ds ?_ | refine XDi_gF (h := ?_) | refine XDi_gU (h := ?_) | refine X_draws (h := ?_))
      (refine XD_one (h := ?_); refine XDa_dvA (dv_of_rv (rv_of_pv pv_assign)) (hk := ?_); rintro _ _ ⟨rfl, rfl⟩; refine ⟨by (repeat (first | exact keeps_nil | exact keeps_fnil | refine keeps_skip (h := ?_) | refine keeps_takeQ (h := ?_))), ?_⟩)
      (refine XD_end (h := ?_); repeat (first | refine Zq ?_ | refine Zs ?_ | refine ZT ?_ | refine ZF ?_ | refine Zc ?_ | refine XO_gU (hk := ?_)))
      refine XE_ret (.inl rfl) (tells_tmps rfl rfl) ⟨_, ⟨?_, rfl⟩, by ((try simp only [List.cons_append, List.nil_append]); repeat (first | exact ent_refl | refine ent_take (by repeat (first | exact Find.here | apply Find.there)) ?_ | refine ent_drop ?_))⟩
      show Value.bool _ = _
      congr 1
      unfold hasB
      rw [decide_eq_decide]
      exact ⟨fun h' => ⟨h, .inr ⟨h1, h4⟩, h'⟩, fun h' => h'.2.2⟩
    · repeat (first | refine XD_pick (h := ?_) | refine Dq ?_ | refine Ds ?_ | refine XDi_gF (h := ?_) | refine XDi_gU (h := ?_) | refine X_draws (h := ?_))
      (refine XD_head (h := ?_); first | refine XDi_gF (h := ?_) | refine XDi_gU (h := ?_))
      repeat (first | refine XD_pick (h := ?_) | refine Dq ?_ | refine Ds ?_ | refine XDi_gF (h := ?_) | refine XDi_gU (h := ?_) | refine X_draws (h := ?_))
      (refine XD_one (h := ?_); refine XDa_dvA (dv_of_rv (rv_of_pv pv_assign)) (hk := ?_); rintro _ _ ⟨rfl, rfl⟩; refine ⟨by (repeat (first | exact keeps_nil | exact keeps_fnil | refine keeps_skip (h := ?_) | refine keeps_takeQ (h := ?_))), ?_⟩)
      (refine XD_end (h := ?_); repeat (first | refine Zq ?_ | refine Zs ?_ | refine ZT ?_ | refine ZF ?_ | refine Zc ?_ | refine XO_gU (hk := ?_)))
      refine XE_ret (.inl rfl) (tells_tmps rfl rfl) ⟨_, ⟨?_, rfl⟩, by ((try simp only [List.cons_append, List.nil_append]); repeat (first | exact ent_refl | refine ent_take (by repeat (first | exact Find.here | apply Find.there)) ?_ | refine ent_drop ?_))⟩
      show Value.bool _ = _
      congr 1
      unfold hasB
      rw [eq_comm, decide_eq_false_iff_not]
      rintro ⟨_, h', _⟩
      omega
  · repeat (first | refine XD_pick (h := ?_) | refine Dq ?_ | refine Ds ?_ | refine XDi_gF (h := ?_) | refine XDi_gU (h := ?_) | refine X_draws (h := ?_))
    (refine XD_head (h := ?_); first | refine XDi_gF (h := ?_) | refine XDi_gU (h := ?_))
    repeat (first | refine XD_pick (h := ?_) | refine Dq ?_ | refine Ds ?_ | refine XDi_gF (h := ?_) | refine XDi_gU (h := ?_) | refine X_draws (h := ?_))
    (refine XD_one (h := ?_); refine XDa_dvA (dv_of_rv (rv_of_pv pv_assign)) (hk := ?_); rintro _ _ ⟨rfl, rfl⟩; refine ⟨by (repeat (first | exact keeps_nil | exact keeps_fnil | refine keeps_skip (h := ?_) | refine keeps_takeQ (h := ?_))), ?_⟩)
    (refine XD_end (h := ?_); repeat (first | refine Zq ?_ | refine Zs ?_ | refine ZT ?_ | refine ZF ?_ | refine Zc ?_ | refine XO_gU (hk := ?_)))
    refine XE_ret (.inl rfl) (tells_tmps rfl rfl) ⟨_, ⟨?_, rfl⟩, by ((try simp only [List.cons_append, List.nil_append]); repeat (first | exact ent_refl | refine ent_take (by repeat (first | exact Find.here | apply Find.there)) ?_ | refine ent_drop ?_))⟩
    show Value.bool _ = _
    congr 1
    unfold hasB
    rw [eq_comm, decide_eq_false_iff_not]
    exact fun h' => h h'.1
theorem index_spec (A B1 B2 : HP) (a : Option Addr) (c : Nat) (xs : List (Int × Int)) (fn : FuncId) (c1 c2 : Value) (q : Int × Int → Bool) (hV : View A eRun a xs) (hl : xs.length ≤ 4611686018427387904)
    (hq : ∀ r ∈ xs, Spec Tryz.prog fn [eRun.val r, c1, c2] [B1, B2] (fun v L => v = .bool (q r) ∧ L = [B1, B2])) :
    Spec Tryz.prog 199 [.slice a xs.length c, .func (.func fn) #[] #[c1, c2]] [A, B1, B2] (fun v L => v = .int .i64 (optI (xs.findIdx? q)) ∧ L = [A, B1, B2]) := by
  refine Spec.intro (IsEnt.out) Tryz.func199 rfl Tryz.ntmps199 (by simp) (fun w0 F => ?_)
  simp only [envOf, List.zipIdx, List.map, List.cons_append, List.nil_append, Nat.zero_add, Nat.reduceAdd]
  repeat (first | refine Zq ?_ | refine Zs ?_ | refine ZT ?_ | refine ZF ?_ | refine Zc ?_ | refine XO_gU (hk := ?_))
  refine X_loop (ι := Nat) (fun k => k ≤ xs.length ∧ ∀ j (hj : j < xs.length), j < k → q xs[j] = false) (fun k => [(0, .slice a xs.length c), (1, .func (.func fn) #[] #[c1, c2]), (6, .slice a xs.length c), (7, .int .i64 (xs.length : Int)), (8, .int .i64 k)]) (fun _ => A :: B1 :: B2 :: F) (fun k => xs.length - k) 0 ⟨Nat.zero_le _, fun _ _ h => by omega⟩ ?_ (by ((try simp only [List.cons_append, List.nil_append]); repeat (first | exact ent_refl | refine ent_take (by repeat (first | exact Find.here | apply Find.there)) ?_ | refine ent_drop ?_))) ?_
  · (repeat (first | exact Env.sub_nil _ | refine Env.sub_cons rfl ?_))
  rintro k ⟨hk, hall⟩
  dsimp only at hk hall ⊢
  repeat (first | refine Zq ?_ | refine Zs ?_ | refine ZT ?_ | refine ZF ?_ | refine Zc ?_ | refine XO_gU (hk := ?_))
  refine X_cond rfl (fun hc => ?_) (fun hc => ?_) <;> simp only [decide_eq_true_eq, decide_eq_false_iff_not] at hc
  · have hkl : k < xs.length := by omega
    refine X_view .here hV (by omega) ?_
    rintro b o rfl
    repeat (first | refine Zq ?_ | refine Zs ?_ | refine ZT ?_ | refine ZF ?_ | refine Zc ?_ | refine XO_gU (hk := ?_))
    refine XO_rv (rv_vel (i := k) (hV := hV)) (hk := ?_)
    repeat (first | refine Zq ?_ | refine Zs ?_ | refine ZT ?_ | refine ZF ?_ | refine Zc ?_ | refine XO_gU (hk := ?_))
    refine XO_call (hq xs[k] (List.getElem_mem hkl)) (hk := ?_)
    rintro _ _ ⟨rfl, rfl⟩
    repeat (first | refine Zq ?_ | refine Zs ?_ | refine ZT ?_ | refine ZF ?_ | refine Zc ?_ | refine XO_gU (hk := ?_))
    refine X_cond rfl (fun h3 => ?_) (fun h3 => ?_)
    · have he : xs.findIdx? q = some k := by
        rw [List.findIdx?_eq_some_iff_getElem]
        exact ⟨hkl, by simpa using h3, fun j hj => by simp [hall j (by omega) hj]⟩
      repeat (first | refine Zq ?_ | refine Zs ?_ | refine ZT ?_ | refine ZF ?_ | refine Zc ?_ | refine XO_gU (hk := ?_))
      refine XE_ret (.inl rfl) (tells_tmps rfl rfl) ⟨_, ⟨?_, rfl⟩, by ((try simp only [List.cons_append, List.nil_append]); repeat (first | exact ent_refl | refine ent_take (by repeat (first | exact Find.here | apply Find.there)) ?_ | refine ent_drop ?_))⟩
      rw [he]; rfl
    · repeat (first | refine Zq ?_ | refine Zs ?_ | refine ZT ?_ | refine ZF ?_ | refine Zc ?_ | refine XO_gU (hk := ?_))
      refine X_round (k + 1) ⟨by omega, fun j hj hlt => ?_⟩ (by show xs.length - (k + 1) < xs.length - k; omega) (by (repeat (first | exact Env.sub_nil _ | refine Env.sub_cons rfl ?_))) (by ((try simp only [List.cons_append, List.nil_append]); repeat (first | exact ent_refl | refine ent_take (by repeat (first | exact Find.here | apply Find.there)) ?_ | refine ent_drop ?_)))
      rcases Nat.lt_or_ge j k with h | h
      · exact hall j hj h
      · obtain rfl : j = k := by omega
        exact h3
  · obtain rfl : k = xs.length := by omega
    have he : xs.findIdx? q = none := by
      rw [List.findIdx?_eq_none_iff]
      intro x hx
      obtain ⟨j, hj, rfl⟩ := List.getElem_of_mem hx
      exact hall j hj hj
    repeat (first | refine Zq ?_ | refine Zs ?_ | refine ZT ?_ | refine ZF ?_ | refine Zc ?_ | refine XO_gU (hk := ?_))
    refine XE_ret (.inl rfl) (tells_tmps rfl rfl) ⟨_, ⟨?_, rfl⟩, by ((try simp only [List.cons_append, List.nil_append]); repeat (first | exact ent_refl | refine ent_take (by repeat (first | exact Find.here | apply Find.there)) ?_ | refine ent_drop ?_))⟩
    rw [he]; rfl
theorem contains_spec (A B1 B2 : HP) (a : Option Addr) (c : Nat) (xs : List (Int × Int)) (fn : FuncId) (c1 c2 : Value) (q : Int × Int → Bool) (hV : View A eRun a xs) (hl : xs.length ≤ 4611686018427387904)
    (hq : ∀ r ∈ xs, Spec Tryz.prog fn [eRun.val r, c1, c2] [B1, B2] (fun v L => v = .bool (q r) ∧ L = [B1, B2])) :
    Spec Tryz.prog 192 [.slice a xs.length c, .func (.func fn) #[] #[c1, c2]] [A, B1, B2] (fun v L => v = .bool (xs.any q) ∧ L = [A, B1, B2]) := by
  refine Spec.intro (IsEnt.out) Tryz.func192 rfl Tryz.ntmps192 (by simp) (fun w0 F => ?_)
  simp only [envOf, List.zipIdx, List.map, List.cons_append, List.nil_append, Nat.zero_add, Nat.reduceAdd]
  repeat (first | refine Zq ?_ | refine Zs ?_ | refine ZT ?_ | refine ZF ?_ | refine Zc ?_ | refine XO_gU (hk := ?_))
  refine XO_call (index_spec A B1 B2 a c xs fn c1 c2 q hV hl hq) (hk := ?_)
  rintro _ _ ⟨rfl, rfl⟩
  repeat (first | refine Zq ?_ | refine Zs ?_ | refine ZT ?_ | refine ZF ?_ | refine Zc ?_ | refine XO_gU (hk := ?_))
  refine XE_ret (.inl rfl) (tells_tmps rfl rfl) ⟨_, ⟨?_, rfl⟩, by ((try simp only [List.cons_append, List.nil_append]); repeat (first | exact ent_refl | refine ent_take (by repeat (first | exact Find.here | apply Find.there)) ?_ | refine ent_drop ?_))⟩
  show Value.bool _ = _
  congr 1
  cases hi : xs.findIdx? q with
  | none =>
    rw [List.findIdx?_eq_none_iff] at hi
    have : xs.any q = false := by rw [List.any_eq_false]; intro x hx; simp [hi x hx]
    rw [this]; rfl
  | some k =>
    rw [List.findIdx?_eq_some_iff_getElem] at hi
    obtain ⟨hk, h, _⟩ := hi
    have : xs.any q = true := by rw [List.any_eq_true]; exact ⟨_, List.getElem_mem hk, h⟩
    rw [this]
    exact decide_eq_true (by show (0 : Int) ≤ (k : Int); omega)
theorem has_spec (A : HP) (a : Option Addr) (c : Nat) (xs : List (Int × Int)) (p n : Int) (hV : View A eRun a xs) (hl : xs.length ≤ 4611686018427387904) (h1 : 0 ≤ p) (h2 : p ≤ 1048576) (hB : Bd xs) :
    Spec Tryz.prog 168 [.slice a xs.length c, .int .i64 p, .int .i64 n] [A] (fun v L => v = .bool (xs.any (hasB p n)) ∧ L = [A]) := by
  refine Spec.intro (IsEnt.out) Tryz.func168 rfl Tryz.ntmps168 (by simp) (fun w0 F => ?_)
  simp only [envOf, List.zipIdx, List.map, List.cons_append, List.nil_append, Nat.zero_add, Nat.reduceAdd]
  repeat (first | refine Zq ?_ | refine Zs ?_ | refine ZT ?_ | refine ZF ?_ | refine Zc ?_ | refine XO_gU (hk := ?_))
  refine XO_dv dv_box1 (hk := ?_)
  rintro _ _ ⟨b1, rfl, rfl⟩
  repeat (first | refine Zq ?_ | refine Zs ?_ | refine ZT ?_ | refine ZF ?_ | refine Zc ?_ | refine XO_gU (hk := ?_))
  refine XO_dv dv_box1 (hk := ?_)
  rintro _ _ ⟨b2, rfl, rfl⟩
  repeat (first | refine Zq ?_ | refine Zs ?_ | refine ZT ?_ | refine ZF ?_ | refine Zc ?_ | refine XO_gU (hk := ?_))
  refine XO_call (contains_spec A _ _ a c xs _ _ _ (hasB p n) hV hl (fun r hr => has1_spec b1 b2 p n r h1 h2 (hB r hr).1 (hB r hr).2.1 (hB r hr).2.2)) (hk := ?_)
  rintro _ _ ⟨rfl, rfl⟩
  repeat (first | refine Zq ?_ | refine Zs ?_ | refine ZT ?_ | refine ZF ?_ | refine Zc ?_ | refine XO_gU (hk := ?_))
  refine XE_ret (.inl rfl) (tells_tmps rfl rfl) ⟨_, ⟨rfl, rfl⟩, by ((try simp only [List.cons_append, List.nil_append]); repeat (first | exact ent_refl | refine ent_take (by repeat (first | exact Find.here | apply Find.there)) ?_ | refine ent_drop ?_))⟩
end Go.Proofs.YtamecmklcnohjaaGreat.Sep
namespace Go.Proofs.YtamecmklcnohjaaGreat.Sep
open Go.RowKit
set_option linter.unusedSimpArgs false
set_option linter.unusedVariables false
set_option maxHeartbeats 8000000
attribute [local irreducible] X XE XO XD XDi XDa PV RV DV pt base Spec Sl Mp Keeps

instance teq_run : TEq Tryz.prog 97 [.i64, .i64] := ⟨_, Tryz.underlying97, by kernel_rfl, by kernel_rfl, ⟨by decide, rfl, Tryz.underlying3, by decide, rfl, Tryz.underlying3, trivial⟩⟩
theorem delete_spec (b o c i m : Nat) (xs : List (Int × Int)) (hm : m = xs.length) (hi : i < xs.length) (hl : xs.length ≤ 4611686018427387904) :
    Spec Tryz.prog 190 [.slice (some ⟨b, o, none⟩) m c, .int .i64 i, .int .i64 (i + 1 : Int)] [Sl eRun (some ⟨b, o, none⟩) c xs]
      (fun v L => v = .slice (some ⟨b, o, none⟩) (xs.eraseIdx i).length c ∧ L = [Sl eRun (some ⟨b, o, none⟩) c (xs.eraseIdx i)]) := by
  subst hm
  refine Spec.intro (IsEnt.out) Tryz.func190 rfl Tryz.ntmps190 (by simp) (fun w0 F => ?_)
  simp only [envOf, List.zipIdx, List.map, List.cons_append, List.nil_append, Nat.zero_add, Nat.reduceAdd]
  refine X_fact (A := Sl eRun (some ⟨b, o, none⟩) c xs) .here Sl.cap (fun hc => ?_)
  have hel : (xs.eraseIdx i) = xs.take i ++ xs.drop (i + 1) := List.eraseIdx_eq_take_drop_succ ..
  have hen : (xs.take i ++ xs.drop (i + 1)).length = i + (xs.length - (i + 1)) := by simp; omega
  repeat (first | refine Zq ?_ | refine Zs ?_ | refine ZT ?_ | refine ZF ?_ | refine Zc ?_ | refine XO_gU (hk := ?_))
  refine XO_pv pv_sliceLHM (hk := ?_)
  repeat (first | refine Zq ?_ | refine Zs ?_ | refine ZT ?_ | refine ZF ?_ | refine Zc ?_ | refine XO_gU (hk := ?_))
  refine X_cond rfl (fun h => ?_) (fun h => ?_)
  · exfalso; simp at h; omega
  repeat (first | refine Zq ?_ | refine Zs ?_ | refine ZT ?_ | refine ZF ?_ | refine Zc ?_ | refine XO_gU (hk := ?_))
  repeat (first | refine XD_pick (h := ?_) | refine Dq ?_ | refine Ds ?_ | refine XDi_gF (h := ?_) | refine XDi_gU (h := ?_) | refine X_draws (h := ?_))
  refine XD_one (h := ?_)
  refine XDa_dvA (dv_appendSelf (E' := eRun) (i := i) (j := i + 1) (xs := xs)) (hk := ?_)
  rintro _ _ ⟨rfl, rfl⟩
  refine ⟨by (repeat (first | exact keeps_nil | exact keeps_fnil | refine keeps_skip (h := ?_) | refine keeps_takeQ (h := ?_))), ?_⟩
  repeat (first | refine XD_pick (h := ?_) | refine Dq ?_ | refine Ds ?_ | refine XDi_gF (h := ?_) | refine XDi_gU (h := ?_) | refine X_draws (h := ?_))
  (refine XD_one (h := ?_); refine XDa_dvA (dv_of_rv (rv_of_pv pv_assign)) (hk := ?_); rintro _ _ ⟨rfl, rfl⟩; refine ⟨by (repeat (first | exact keeps_nil | exact keeps_fnil | refine keeps_skip (h := ?_) | refine keeps_takeQ (h := ?_))), ?_⟩)
  (refine XD_end (h := ?_); repeat (first | refine Zq ?_ | refine Zs ?_ | refine ZT ?_ | refine ZF ?_ | refine Zc ?_ | refine XO_gU (hk := ?_)))
  have hlx : (xs.eraseIdx i).length = i + (xs.length - (i + 1)) := by rw [hel]; exact hen
  rw [← hel, ← hlx]
  refine XO_pv (pv_sliceLH (h1 := by omega) (h2 := by omega)) (hk := ?_)
  repeat (first | refine Zq ?_ | refine Zs ?_ | refine ZT ?_ | refine ZF ?_ | refine Zc ?_ | refine XO_gU (hk := ?_))
  refine XO_dv0 (dv_clear (xs := xs.eraseIdx i) (hm := by omega)) (hk := ?_)
  rintro _ _ rfl
  repeat (first | refine Zq ?_ | refine Zs ?_ | refine ZT ?_ | refine ZF ?_ | refine Zc ?_ | refine XO_gU (hk := ?_))
  refine XE_ret (.inl rfl) (tells_tmps rfl rfl) ⟨_, ⟨rfl, rfl⟩, by ((try simp only [List.cons_append, List.nil_append]); repeat (first | exact ent_refl | refine ent_take (by repeat (first | exact Find.here | apply Find.there)) ?_ | refine ent_drop ?_))⟩
/-- So many pages are taken: the first one, and what is left. -/
def takeAt (xs : List (Int × Int)) (n : Int) (i : Nat) : Int × List (Int × Int) :=
  ((xs.getD i (0, 0)).1, if (xs.getD i (0, 0)).2 = n then xs.eraseIdx i else xs.set i ((xs.getD i (0, 0)).1 + n, (xs.getD i (0, 0)).2 - n))
def takeI (xs : List (Int × Int)) (n : Int) : Option (Int × List (Int × Int)) := (bestU xs n xs.length).map (takeAt xs n)
def takeV (A : HP) : Option (Int × List (Int × Int)) → Value → List HP → Prop
  | none, v, L => v = .tuple #[.int .i64 0, .slice none 0 0, .bool false] ∧ L = [A]
  | some (p, ys), v, L => ∃ b c, v = .tuple #[.int .i64 p, .slice (some ⟨b, 0, none⟩) ys.length c, .bool true] ∧ L = [A, Sl eRun (some ⟨b, 0, none⟩) c ys]
theorem bestU_ge {xs : List (Int × Int)} {n : Int} : ∀ {i j : Nat}, bestU xs n i = some j → 0 < n ∧ n ≤ (xs.getD j (0, 0)).2
  | 0, j, h => by cases h
  | i + 1, j, h => by
    unfold bestU at h
    split at h
    · rename_i h1; cases h; exact ⟨h1.1, h1.2.1⟩
    · exact bestU_ge h
theorem take_spec (A : HP) (a : Option Addr) (c : Nat) (xs : List (Int × Int)) (n : Int) (hV : View A eRun a xs) (hl : xs.length ≤ 1048576) (hB : Bd xs) :
    Spec Tryz.prog 166 [.slice a xs.length c, .int .i64 n] [A] (takeV A (takeI xs n)) := by
  refine Spec.intro (IsEnt.out) Tryz.func166 rfl Tryz.ntmps166 (by simp) (fun w0 F => ?_)
  simp only [envOf, List.zipIdx, List.map, List.cons_append, List.nil_append, Nat.zero_add, Nat.reduceAdd]
  repeat (first | refine Zq ?_ | refine Zs ?_ | refine ZT ?_ | refine ZF ?_ | refine Zc ?_ | refine XO_gU (hk := ?_))
  refine XO_call (best_spec A a c xs n hV (by omega)) (hk := ?_)
  rintro _ _ ⟨rfl, rfl⟩
  repeat (first | refine Zq ?_ | refine Zs ?_ | refine ZT ?_ | refine ZF ?_ | refine Zc ?_ | refine XO_gU (hk := ?_))
  cases hb : bestU xs n xs.length with
  | none =>
    have ht : takeI xs n = none := by unfold takeI; rw [hb]; rfl
    rw [ht]
    refine X_cond rfl (fun h => ?_) (fun h => ?_)
    · repeat (first | refine Zq ?_ | refine Zs ?_ | refine ZT ?_ | refine ZF ?_ | refine Zc ?_ | refine XO_gU (hk := ?_))
      refine XE_ret (.inl rfl) (tells_tmps rfl rfl) ⟨_, ⟨rfl, rfl⟩, by ((try simp only [List.cons_append, List.nil_append]); repeat (first | exact ent_refl | refine ent_take (by repeat (first | exact Find.here | apply Find.there)) ?_ | refine ent_drop ?_))⟩
    · cases h
  | some i =>
    have ht : takeI xs n = some (takeAt xs n i) := by unfold takeI; rw [hb]; rfl
    rw [ht]
    have hi := bestU_lt hb
    obtain ⟨hn0, hn1⟩ := bestU_ge hb
    have hgi : xs.getD i (0, 0) = xs[i] := by simp [List.getD, hi]
    rw [hgi] at hn1
    obtain ⟨g1, g2, g3⟩ := hB xs[i] (List.getElem_mem hi)
    simp only [optI]
    refine X_cond rfl (fun h => ?_) (fun h => ?_)
    · exfalso
      have : (i : Int) < 0 := of_decide_eq_true h
      omega
    refine X_view .here hV (by omega) ?_
    rintro b o rfl
    repeat (first | refine Zq ?_ | refine Zs ?_ | refine ZT ?_ | refine ZF ?_ | refine Zc ?_ | refine XO_gU (hk := ?_))
    refine XO_dv (dv_makeSlice (E' := eRun) (0, 0)) (hk := ?_)
    rintro _ _ ⟨nb, rfl, rfl⟩
    repeat (first | refine Zq ?_ | refine Zs ?_ | refine ZT ?_ | refine ZF ?_ | refine Zc ?_ | refine XO_gU (hk := ?_))
    simp only [Int.toNat_natCast]
    obtain ⟨zs, hz, hzl⟩ : ∃ zs, zs = List.replicate xs.length ((0, 0) : Int × Int) ∧ zs.length = xs.length := ⟨_, rfl, by simp⟩
    rw [← hz]
    refine XO_dv (dv_copy (E' := eRun) (ys := xs) (xs := zs) (A := A) (hx := by rw [hzl]; rfl) (hv := hV) (hn := by rw [hzl]; simp)) (hk := ?_)
    rintro _ _ ⟨rfl, rfl⟩
    rw [show xs ++ zs.drop xs.length = xs from by rw [List.drop_of_length_le (by omega), List.append_nil]]
    repeat (first | refine Zq ?_ | refine Zs ?_ | refine ZT ?_ | refine ZF ?_ | refine Zc ?_ | refine XO_gU (hk := ?_))
    refine XO_rv (rv_velf (i := i) (f := 0) (hV := hV)) (hk := ?_)
    repeat (first | refine Zq ?_ | refine Zs ?_ | refine ZT ?_ | refine ZF ?_ | refine Zc ?_ | refine XO_gU (hk := ?_))
    refine XO_rv (rv_velf (i := i) (f := 1) (hV := hV)) (hk := ?_)
    repeat (first | refine Zq ?_ | refine Zs ?_ | refine ZT ?_ | refine ZF ?_ | refine Zc ?_ | refine XO_gU (hk := ?_))
    refine XO_dv0 (dv_putElW (E' := eRun) (i := i) (x' := (xs[i].1 + n, xs[i].2 - n))) (hk := ?_)
    rintro _ _ rfl
    repeat (first | refine Zq ?_ | refine Zs ?_ | refine ZT ?_ | refine ZF ?_ | refine Zc ?_ | refine XO_gU (hk := ?_))
    repeat (first | refine XD_pick (h := ?_) | refine Dq ?_ | refine Ds ?_ | refine XDi_gF (h := ?_) | refine XDi_gU (h := ?_) | refine X_draws (h := ?_))
    refine XDi_rvA (rv_el (E' := eRun) (i := i) (hl := by simp; omega)) (h := ?_)
    simp only [List.getElem_set_self]
    repeat (first | refine XD_pick (h := ?_) | refine Dq ?_ | refine Ds ?_ | refine XDi_gF (h := ?_) | refine XDi_gU (h := ?_) | refine X_draws (h := ?_))
    refine XDi_rvA (rv_vel (i := i) (hV := hV)) (h := ?_)
    repeat (first | refine XD_pick (h := ?_) | refine Dq ?_ | refine Ds ?_ | refine XDi_gF (h := ?_) | refine XDi_gU (h := ?_) | refine X_draws (h := ?_))
    refine XD_one (h := ?_)
    refine XDa_dvA (dv_call (end_spec xs[i].1 xs[i].2 g1 g2 (by omega))) (hk := ?_)
    rintro _ _ ⟨_, ⟨rfl, rfl⟩, rfl⟩
    refine ⟨?_, ?_⟩
    · repeat (first | exact keeps_fnil | refine keeps_skip (h := ?_) | refine keeps_takeA (hv := by first | exact rv_velG (i := i) (x' := xs[i]) (hV := hV) (hget := by simp [hi]) | exact rv_elG (i := i) (x' := (xs[i].1 + n, xs[i].2 - n)) (hget := by simp [hi])) (h := ?_))
    repeat (first | refine XD_pick (h := ?_) | refine Dq ?_ | refine Ds ?_ | refine XDi_gF (h := ?_) | refine XDi_gU (h := ?_) | refine X_draws (h := ?_))
    refine XDi_pvA (pv_buildG [.int .i64 (xs[i].1 + xs[i].2), .int .i64 0]) (h := ?_)
    repeat (first | refine XD_pick (h := ?_) | refine Dq ?_ | refine Ds ?_ | refine XDi_gF (h := ?_) | refine XDi_gU (h := ?_) | refine X_draws (h := ?_))
    refine XDi_pvA (pv_eqRec [xs[i].1 + n, xs[i].2 - n] [xs[i].1 + xs[i].2, 0]) (h := ?_)
    repeat (first | refine XD_pick (h := ?_) | refine Dq ?_ | refine Ds ?_ | refine XDi_gF (h := ?_) | refine XDi_gU (h := ?_) | refine X_draws (h := ?_))
    (refine XD_end (h := ?_); repeat (first | refine Zq ?_ | refine Zs ?_ | refine ZT ?_ | refine ZF ?_ | refine Zc ?_ | refine XO_gU (hk := ?_)))
    refine X_cond rfl (fun h => ?_) (fun h => ?_) <;> simp only [decide_eq_true_eq, decide_eq_false_iff_not] at h
    · have hq : xs[i].2 = n := by simp at h; omega
      have hta : takeAt xs n i = (xs[i].1, xs.eraseIdx i) := by unfold takeAt; rw [hgi, if_pos hq]
      have hse : (xs.set i (xs[i].1 + n, xs[i].2 - n)).eraseIdx i = xs.eraseIdx i := by
        exact List.eraseIdx_set_eq
      rw [hta]
      have hsl : (xs.set i (xs[i].1 + n, xs[i].2 - n)).length = xs.length := by simp
      repeat (first | refine Zq ?_ | refine Zs ?_ | refine ZT ?_ | refine ZF ?_ | refine Zc ?_ | refine XO_gU (hk := ?_))
      refine XO_call (delete_spec nb 0 xs.length i xs.length (xs.set i (xs[i].1 + n, xs[i].2 - n)) (by simp) (by omega) (by omega)) (hk := ?_)
      rintro _ _ ⟨rfl, rfl⟩
      rw [hse]
      repeat (first | refine Zq ?_ | refine Zs ?_ | refine ZT ?_ | refine ZF ?_ | refine Zc ?_ | refine XO_gU (hk := ?_))
      refine XE_ret (.inl rfl) (tells_tmps rfl rfl) ⟨_, ⟨nb, xs.length, rfl, rfl⟩, by ((try simp only [List.cons_append, List.nil_append]); repeat (first | exact ent_refl | refine ent_take (by repeat (first | exact Find.here | apply Find.there)) ?_ | refine ent_drop ?_))⟩
    · have hq : ¬ xs[i].2 = n := fun h' => h (by simp [h'])
      have hta : takeAt xs n i = (xs[i].1, xs.set i (xs[i].1 + n, xs[i].2 - n)) := by unfold takeAt; rw [hgi, if_neg hq]
      rw [hta]
      have hsl : (xs.set i (xs[i].1 + n, xs[i].2 - n)).length = xs.length := by simp
      repeat (first | refine Zq ?_ | refine Zs ?_ | refine ZT ?_ | refine ZF ?_ | refine Zc ?_ | refine XO_gU (hk := ?_))
      refine XE_ret (.inl rfl) (tells_tmps rfl rfl) ⟨_, ⟨nb, xs.length, by rw [hsl]; rfl, rfl⟩, by ((try simp only [List.cons_append, List.nil_append]); repeat (first | exact ent_refl | refine ent_take (by repeat (first | exact Find.here | apply Find.there)) ?_ | refine ent_drop ?_))⟩
end Go.Proofs.YtamecmklcnohjaaGreat.Sep
