import Derived.Test.YtamecmklcnohjaaGreatBn9
import Derived.Test.YtamecmklcnohjaaGreatBn6
/- What the laws share: a separation logic over the model, and what the program's functions do, by it. Part 10 of 14: SpaceD SpaceE Head HeadB SpaceF HeadC Chunk Keep ChunkB ChunkC. -/
namespace Go.Proofs.YtamecmklcnohjaaGreat.Sep
open Go.RowKit
set_option linter.unusedSimpArgs false
set_option linter.unusedVariables false
/-! bytes that are laid -/
theorem newPage {nb : Nat} {T : TypeId} : ∀ H, SL [pt nb (.cells (List.replicate 4096 (Value.int .u8 0)).toArray T (0, 0))] H → Sl (eI .u8) (some ⟨nb, 0, none⟩) 4096 (List.replicate 4096 0) H := fun H ⟨H1, H2, d, u, hA, _⟩ => by
  have h : pt nb (.cells (List.replicate 4096 (Value.int .u8 0)).toArray T (0, 0)) H := by
    have hA' : H1 nb = some (.cells (List.replicate 4096 (Value.int .u8 0)).toArray T (0, 0)) := hA
    show H nb = _
    rw [u nb, hA']; rfl
  have := Sl.of_pt (E' := eI .u8) (xs := List.replicate 4096 (0 : Int)) (vs := List.replicate 4096 (Value.int .u8 0)) (by rw [flat_eI, List.map_replicate]) H h
  rwa [List.length_replicate] at this
theorem ins_pblk {M : List (Int × Nat × List Int)} {p : Int} {b : Nat} {xs : List Int} (h : lk M p = none) : ins (pblk M) p (some b) = pblk (M ++ [(p, b, xs)]) := by
  rw [ins_new (by rw [lk_pblk, h]; rfl)]; simp [pblk]
theorem byt_wr {m : Int → Int} {at_ : Int} {bs : List Int} (h : ∀ a, 0 ≤ m a ∧ m a ≤ 255) (hb : Byt bs) : ∀ a, 0 ≤ wrM m at_ bs a ∧ wrM m at_ bs a ≤ 255 := fun a => by
  unfold wrM
  split
  · rename_i hc
    have hl : (a - at_).toNat < bs.length := by omega
    have := hb bs[(a - at_).toNat] (List.getElem_mem hl)
    simpa [List.getD, hl] using this
  · exact h a
theorem SpOk.add {P : Int} {m : Int → Int} {M : List (Int × Nat × List Int)} {p : Int} {b : Nat} (h : SpOk P m M) (hp : 0 ≤ p ∧ p < P) (hn : lk M p = none) : SpOk P m (M ++ [(p, b, List.replicate 4096 0)]) := by
  refine ⟨?_, fun q hq => ?_, h.byt⟩
  · rw [← h.mem, ← ins_new hn]
    funext a
    exact memOf_new hn a
  · rcases List.mem_append.1 hq with hq | hq
    · exact h.len q hq
    · simp only [List.mem_singleton] at hq; subst hq; exact ⟨hp.1, hp.2, List.length_replicate⟩
theorem SpOk.put {P : Int} {m : Int → Int} {M1 M2 : List (Int × Nat × List Int)} {p : Int} {b i : Nat} {xs bs : List Int} (h : SpOk P m (M1 ++ (p, b, xs) :: M2)) (hn : lk M1 p = none) (hi : i + bs.length ≤ 4096) (hb : Byt bs) :
    SpOk P (wrM m (p * 4096 + i) bs) (M1 ++ (p, b, cutIn xs i bs) :: M2) := by
  have hx := h.len (p, b, xs) (by simp)
  have hlk : lk (M1 ++ (p, b, xs) :: M2) p = some (b, xs) := lk_mid hn
  refine ⟨?_, fun q hq => ?_, byt_wr h.byt hb⟩
  · rw [← h.mem, ← ins_split (v := (b, xs)) hn]
    funext a
    exact memOf_put hlk hx.2.2 hi a
  · rcases List.mem_append.1 hq with hq | hq
    · exact h.len q (by simp [hq])
    · rcases List.mem_cons.1 hq with rfl | hq
      · exact ⟨hx.1, hx.2.1, by rw [cutIn_len (by rw [hx.2.2]; exact hi)]; exact hx.2.2⟩
      · exact h.len q (by simp [hq])
def stI (A : HP) (sb sc bc N c : Nat) (a : Option Addr) (P : Int) (m : Mm) (at_ : Int) (bs : List Int) (f : Int) : List HP :=
  [Spc sb P ⟨wrM m.f at_ (bs.take f.toNat), m.t⟩, pt sc (.cells [.pointer (some ⟨sb, 0, none⟩)].toArray 82 (0, 0)), pt bc (.cells [.slice a N c].toArray 56 (0, 0)), A]
set_option maxHeartbeats 8000000
attribute [local irreducible] X XE XO XD XDi XDa PV RV DV pt base Spec Sl Mp Keeps Pgs Spc
theorem store1_spec (A : HP) (sb sc bc c : Nat) (a : Option Addr) (P : Int) (m : Mm) (at_ f : Int) (bs : List Int) (hV : View A (eI .u8) a bs) (hB : Byt bs) (hc : bs.length ≤ c) (hP : P ≤ 1048576) (h0 : 0 ≤ at_) (h1 : at_ + bs.length ≤ P * 4096) (f0 : 0 ≤ f) (f1 : f < bs.length) :
    Spec Tryz.prog 181 ([.int .u64 ((at_ + f) / 4096), .int .u64 ((at_ + f) % 4096), .int .u64 (stepI at_ bs.length f), .int .u64 f] ++ [.pointer (some ⟨sc, 0, none⟩), .pointer (some ⟨bc, 0, none⟩)])
      (stI A sb sc bc bs.length c a P m at_ bs f) (fun _ L => L = stI A sb sc bc bs.length c a P m at_ bs (f + stepI at_ bs.length f)) := by
  unfold stI
  refine Spec.intro (IsEnt.out) Tryz.func181 rfl Tryz.ntmps181 (by simp) (fun w0 F => ?_)
  simp only [envOf, List.zipIdx, List.map, List.cons_append, List.nil_append, Nat.zero_add, Nat.reduceAdd]
  obtain ⟨p, hp⟩ : ∃ p, p = (at_ + f) / 4096 := ⟨_, rfl⟩
  obtain ⟨i, hi⟩ : ∃ i, i = (at_ + f) % 4096 := ⟨_, rfl⟩
  have hs : 1 ≤ stepI at_ bs.length f ∧ f + stepI at_ bs.length f ≤ bs.length ∧ i + stepI at_ bs.length f ≤ 4096 := by unfold stepI; omega
  rw [← hp, ← hi]
  generalize stepI at_ bs.length f = k at hs ⊢
  have hpP : 0 ≤ p ∧ p < P := by omega
  generalize hm' : wrM m.f at_ (bs.take f.toNat) = m'
  refine X_open .here Spc.open ?_
  rintro ⟨mb, M⟩ hM
  dsimp only [List.cons_append, List.nil_append] at hM ⊢
  repeat (first | refine Zq ?_ | refine Zs ?_ | refine ZT ?_ | refine ZF ?_ | refine Zc ?_ | refine XO_gU (hk := ?_))
  refine XO_call (keyOf_spec p hpP.1 (by omega)) (hk := ?_)
  rintro _ _ ⟨rfl, rfl⟩
  refine XO_dv (dv_alloc (row := [.int .u16 0, .int .u16 0])) (hk := ?_)
  rintro _ _ ⟨cb, rfl, rfl⟩
  refine XO_dv0 (dv_storeW (vs := [.int .u16 (p / 65536), .int .u16 (p % 65536)])) (hk := ?_)
  rintro _ _ rfl
  refine XO_nil ?_
  refine XE_code ?_
  refine X_seq ?_
  refine X_join (ι := Nat × List Int × List (Int × Nat × List Int) × List (Int × Nat × List Int)) (fun q => SpOk P m' (q.2.2.1 ++ (p, q.1, q.2.1) :: q.2.2.2) ∧ lk q.2.2.1 p = none)
    (fun q => [(0, .int .u64 p), (1, .int .u64 i), (2, .int .u64 k), (3, .int .u64 f), (4, .pointer (some ⟨sc, 0, none⟩)), (5, .pointer (some ⟨bc, 0, none⟩)), (10, .pointer (some ⟨cb, 0, none⟩))])
    (fun q => pt cb (.cells [.int .u16 (p / 65536), .int .u16 (p % 65536)].toArray 208 (0, 0)) :: Pgs (q.2.2.1 ++ (p, q.1, q.2.1) :: q.2.2.2) :: pt sb (.cells [.int .i64 P, .map (some mb), .int .i64 m.t].toArray 188 (0, 0)) :: Mp keyV pgV mb (pblk (q.2.2.1 ++ (p, q.1, q.2.1) :: q.2.2.2)) :: pt sc (.cells [.pointer (some ⟨sb, 0, none⟩)].toArray 82 (0, 0)) :: pt bc (.cells [.slice a bs.length c].toArray 56 (0, 0)) :: A :: F) ?_ ?_
  · repeat (first | refine Zq ?_ | refine Zs ?_ | refine ZT ?_ | refine ZF ?_ | refine Zc ?_ | refine XO_gU (hk := ?_))
    repeat (first | refine XD_pick (h := ?_) | refine Dq ?_ | refine Ds ?_ | refine XDi_gF (h := ?_) | refine XDi_gU (h := ?_) | refine X_draws (h := ?_))
    refine Dr (rv_lookup (ke := keyV) (ve := pgV) p none (ht := tk_page)) ?_
    repeat (first | refine XD_pick (h := ?_) | refine Dq ?_ | refine Ds ?_ | refine XDi_gF (h := ?_) | refine XDi_gU (h := ?_) | refine X_draws (h := ?_))
    rw [lk_pblk]
    cases hlk : lk M p with
    | none =>
      simp only [Option.map_none, Option.getD_none]
      (refine XD_end (h := ?_); repeat (first | refine Zq ?_ | refine Zs ?_ | refine ZT ?_ | refine ZF ?_ | refine Zc ?_ | refine XO_gU (hk := ?_)))
      refine X_cond rfl (fun _ => ?_) (fun h => by cases h)
      repeat (first | refine Zq ?_ | refine Zs ?_ | refine ZT ?_ | refine ZF ?_ | refine Zc ?_ | refine XO_gU (hk := ?_))
      repeat (first | refine XD_pick (h := ?_) | refine Dq ?_ | refine Ds ?_ | refine XDi_gF (h := ?_) | refine XDi_gU (h := ?_) | refine X_draws (h := ?_))
      refine Dp (pv_buildArr (List.replicate 4096 (.int .u8 0)) (vs := []) (hf := congrArg some zero4096)) ?_
      repeat (first | refine XD_pick (h := ?_) | refine Dq ?_ | refine Ds ?_ | refine XDi_gF (h := ?_) | refine XDi_gU (h := ?_) | refine X_draws (h := ?_))
      refine XD_one (h := ?_)
      refine XDa_dvA (dv_box (row := List.replicate 4096 (.int .u8 0))) (hk := ?_)
      rintro _ _ ⟨nb, rfl, rfl⟩
      refine ⟨by (repeat (first | exact keeps_nil | exact keeps_fnil | refine keeps_skip (h := ?_) | refine keeps_takeQ (h := ?_))), ?_⟩
      repeat (first | refine XD_pick (h := ?_) | refine Dq ?_ | refine Ds ?_ | refine XDi_gF (h := ?_) | refine XDi_gU (h := ?_) | refine X_draws (h := ?_))
      refine XD_one (h := ?_)
      refine XDa_dvk0 (dv_mapUpdate (ke := keyV) (ve := pgV) p (some nb) (ht := tk_page)) (K := _) (hk := ?_)
      rintro _ _ rfl
      refine ⟨by (repeat (first | exact keeps_nil | exact keeps_fnil | refine keeps_skip (h := ?_) | refine keeps_takeQ (h := ?_))), ?_⟩
      (refine XD_end (h := ?_); repeat (first | refine Zq ?_ | refine Zs ?_ | refine ZT ?_ | refine ZF ?_ | refine Zc ?_ | refine XO_gU (hk := ?_)))
      rw [ins_pblk (xs := List.replicate 4096 0) hlk]
      refine XE_fold (by repeat (first | exact FindAll.nil | exact Find.here | apply Find.there | apply FindAll.cons)) newPage ?_
      refine XE_fold (by repeat (first | exact FindAll.nil | exact Find.here | apply Find.there | apply FindAll.cons)) (Pgs.add (p := p)) ?_
      exact X_meet (nb, List.replicate 4096 0, M, []) ⟨hM.add hpP hlk, hlk⟩ (by (repeat (first | exact Env.sub_nil _ | refine Env.sub_cons rfl ?_))) (by ((try simp only [List.cons_append, List.nil_append]); repeat (first | exact ent_refl | refine ent_take (by repeat (first | exact Find.here | apply Find.there)) ?_ | refine ent_drop ?_)))
    | some q =>
      obtain ⟨b, ys⟩ := q
      obtain ⟨M1, M2, rfl, hn⟩ := lk_split hlk
      simp only [Option.map_some, Option.getD_some]
      (refine XD_end (h := ?_); repeat (first | refine Zq ?_ | refine Zs ?_ | refine ZT ?_ | refine ZF ?_ | refine Zc ?_ | refine XO_gU (hk := ?_)))
      refine X_cond rfl (fun h => by cases h) (fun _ => ?_)
      repeat (first | refine Zq ?_ | refine Zs ?_ | refine ZT ?_ | refine ZF ?_ | refine Zc ?_ | refine XO_gU (hk := ?_))
      exact X_meet (b, ys, M1, M2) ⟨hM, hn⟩ (by (repeat (first | exact Env.sub_nil _ | refine Env.sub_cons rfl ?_))) (by ((try simp only [List.cons_append, List.nil_append]); repeat (first | exact ent_refl | refine ent_take (by repeat (first | exact Find.here | apply Find.there)) ?_ | refine ent_drop ?_)))
  · rintro ⟨b, ys, M1, M2⟩ ⟨hM2, hn⟩
    dsimp only at hM2 hn ⊢
    have hlk : lk (M1 ++ (p, b, ys) :: M2) p = some (b, ys) := lk_mid hn
    have hyl : ys.length = 4096 := (hM2.len (p, b, ys) (by simp)).2.2
    refine X_open (A := Pgs (M1 ++ (p, b, ys) :: M2)) (by (repeat (first | exact Find.here | apply Find.there))) Pgs.out ?_
    rintro ⟨⟩ -
    dsimp only [List.cons_append, List.nil_append]
    refine X_view (by (repeat (first | exact Find.here | apply Find.there))) hV (by omega) ?_
    rintro b2 o2 rfl
    repeat (first | refine Zq ?_ | refine Zs ?_ | refine ZT ?_ | refine ZF ?_ | refine Zc ?_ | refine XO_gU (hk := ?_))
    repeat (first | refine XD_pick (h := ?_) | refine Dq ?_ | refine Ds ?_ | refine XDi_gF (h := ?_) | refine XDi_gU (h := ?_) | refine X_draws (h := ?_))
    refine Dr (rv_lookup (ke := keyV) (ve := pgV) p none (ht := tk_page)) ?_
    rw [lk_pblk, hlk]
    simp only [Option.map_some, Option.getD_some]
    repeat (first | refine XD_pick (h := ?_) | refine Dq ?_ | refine Ds ?_ | refine XDi_gF (h := ?_) | refine XDi_gU (h := ?_) | refine X_draws (h := ?_))
    refine Dp pv_sliceArrL ?_
    repeat (first | refine XD_pick (h := ?_) | refine Dq ?_ | refine Ds ?_ | refine XDi_gF (h := ?_) | refine XDi_gU (h := ?_) | refine X_draws (h := ?_))
    refine Dp pv_sliceLH ?_
    repeat (first | refine XD_pick (h := ?_) | refine Dq ?_ | refine Ds ?_ | refine XDi_gF (h := ?_) | refine XDi_gU (h := ?_) | refine X_draws (h := ?_))
    have hye : ((bs.drop f.toNat).take k.toNat).length = k.toNat := by simp; omega
    refine XD_one (h := ?_)
    refine XDa_dvA (dv_copyAt (E' := eI .u8) (i := i.toNat) (s := 1) (o := 0) (b := b) (c := 4096) (m := (f + k).toNat - f.toNat) (m1 := 4096 - i.toNat) (a2 := subA (some ⟨b2, o2, none⟩) f.toNat c 1) (c2 := c - f.toNat) (xs := ys) (ys := (bs.drop f.toNat).take k.toNat) (A := A)
      (hx := by show some (Value.slice (subA (some ⟨b, 0, none⟩) i.toNat 4096 1) (4096 - i.toNat) (4096 - i.toNat)) = _; rw [subA_lt (by omega)])
      (hy := rfl)
      (hv := (hV.drop f.toNat rfl hc).take k.toNat) (hn := by rw [hye]; omega) (hm1 := by omega)) (hk := ?_)
    rintro _ _ ⟨rfl, rfl⟩
    refine ⟨by (repeat (first | exact keeps_nil | exact keeps_fnil | refine keeps_skip (h := ?_) | refine keeps_takeQ (h := ?_))), ?_⟩
    (refine XD_end (h := ?_); repeat (first | refine Zq ?_ | refine Zs ?_ | refine ZT ?_ | refine ZF ?_ | refine Zc ?_ | refine XO_gU (hk := ?_)))
    have hB2 : Byt ((bs.drop f.toNat).take k.toNat) := fun x hx => hB x ((List.drop_subset _ _) ((List.take_subset _ _) hx))
    have hok := hM2.put (i := i.toNat) (bs := (bs.drop f.toNat).take k.toNat) hn (by rw [hye]; omega) hB2
    have hw := wr_wr m.f at_ (bs.take f.toNat) ((bs.drop f.toNat).take k.toNat)
    rw [← List.take_add, List.length_take, Nat.min_eq_left (by omega), hm', show f.toNat + k.toNat = (f + k).toNat from by omega, show at_ + ((f.toNat : Nat) : Int) = p * 4096 + ((i.toNat : Nat) : Int) from by omega] at hw
    rw [hw] at hok
    rw [show pblk (M1 ++ (p, b, ys) :: M2) = pblk (M1 ++ (p, b, cutIn ys i.toNat ((bs.drop f.toNat).take k.toNat)) :: M2) from by simp [pblk]]
    refine XE_fold (by repeat (first | exact FindAll.nil | exact Find.here | apply Find.there | apply FindAll.cons)) (Pgs.back (p := p) (b := b) (xs := cutIn ys i.toNat ((bs.drop f.toNat).take k.toNat)) (M1 := M1) (M2 := M2)) ?_
    refine XE_fold (by repeat (first | exact FindAll.nil | exact Find.here | apply Find.there | apply FindAll.cons)) (Spc.fold (mb := mb) (t := m.t) hok) ?_
    refine XE_ret (.inr rfl) (tells_tmps rfl rfl) ⟨_, rfl, ?_⟩
    ((try simp only [List.cons_append, List.nil_append]); repeat (first | exact ent_refl | refine ent_take (by repeat (first | exact Find.here | apply Find.there)) ?_ | refine ent_drop ?_))
end Go.Proofs.YtamecmklcnohjaaGreat.Sep
namespace Go.Proofs.YtamecmklcnohjaaGreat.Sep
open Go.RowKit
set_option linter.unusedSimpArgs false
set_option linter.unusedVariables false
/-! bytes that are laid, whole -/
set_option maxHeartbeats 8000000
attribute [local irreducible] X XE XO XD XDi XDa PV RV DV pt base Spec Sl Mp Keeps Pgs Spc
theorem sstore_spec (A : HP) (sb c : Nat) (a : Option Addr) (P : Int) (m : Mm) (at_ : Int) (bs : List Int) (hV : View A (eI .u8) a bs) (hB : Byt bs) (hc : bs.length ≤ c) (hP : P ≤ 1048576) (h0 : 0 ≤ at_) (h1 : at_ + bs.length ≤ P * 4096) :
    Spec Tryz.prog 156 [.pointer (some ⟨sb, 0, none⟩), .int .u64 at_, .slice a bs.length c] [Spc sb P m, A] (fun v L => v = .tuple #[] ∧ L = [Spc sb P ⟨wrM m.f at_ bs, m.t⟩, A]) := by
  refine Spec.intro (IsEnt.out) Tryz.func156 rfl Tryz.ntmps156 (by simp) (fun w0 F => ?_)
  simp only [envOf, List.zipIdx, List.map, List.cons_append, List.nil_append, Nat.zero_add, Nat.reduceAdd]
  repeat (first | refine Zq ?_ | refine Zs ?_ | refine ZT ?_ | refine ZF ?_ | refine Zc ?_ | refine XO_gU (hk := ?_))
  refine XO_dv dv_box1 (hk := ?_)
  rintro _ _ ⟨sc, rfl, rfl⟩
  repeat (first | refine Zq ?_ | refine Zs ?_ | refine ZT ?_ | refine ZF ?_ | refine Zc ?_ | refine XO_gU (hk := ?_))
  refine XO_dv dv_box1 (hk := ?_)
  rintro _ _ ⟨bc, rfl, rfl⟩
  repeat (first | refine Zq ?_ | refine Zs ?_ | refine ZT ?_ | refine ZF ?_ | refine Zc ?_ | refine XO_gU (hk := ?_))
  have e0 : wrM m.f at_ (bs.take (0 : Int).toNat) = m.f := wr_nil m.f at_
  refine XO_call (each_spec (stI A sb sc bc bs.length c a P m at_ bs) 181 [.pointer (some ⟨sc, 0, none⟩), .pointer (some ⟨bc, 0, none⟩)] at_ bs.length h0 (by omega) (by omega) (fun f f0 f1 => store1_spec A sb sc bc c a P m at_ f bs hV hB hc hP h0 h1 f0 f1)) (hf := by unfold stI; rw [e0]; repeat (first | exact FindAll.nil | exact Find.here | apply Find.there | apply FindAll.cons)) (hk := ?_)
  rintro _ _ rfl
  unfold stI
  rw [show ((bs.length : Int)).toNat = bs.length from by omega, List.take_length]
  dsimp only [List.cons_append, List.nil_append]
  repeat (first | refine Zq ?_ | refine Zs ?_ | refine ZT ?_ | refine ZF ?_ | refine Zc ?_ | refine XO_gU (hk := ?_))
  refine XE_ret (.inr rfl) (tells_tmps rfl rfl) ⟨_, ⟨rfl, rfl⟩, ?_⟩
  ((try simp only [List.cons_append, List.nil_append]); repeat (first | exact ent_refl | refine ent_take (by repeat (first | exact Find.here | apply Find.there)) ?_ | refine ent_drop ?_))
def storeV (A : HP) (sb : Nat) (P : Int) (m : Mm) (at_ : Int) (bs : List Int) : Value → List HP → Prop :=
  if fitsI P at_ bs.length 1048576 = 0 then fun v L => v = .int .i64 0 ∧ L = [Spc sb P (stM m at_ bs), A]
  else fun v L => v = .int .i64 (fitsI P at_ bs.length 1048576) ∧ L = [Spc sb P m, A]
theorem Store_spec (A : HP) (sb c : Nat) (a : Option Addr) (P : Int) (m : Mm) (at_ : Int) (bs : List Int) (hV : View A (eI .u8) a bs) (hB : Byt bs) (hc : bs.length ≤ c) (hl : bs.length ≤ 1099511627776) (hP0 : 0 ≤ P) (hP : P ≤ 1048576) (h0 : 0 ≤ at_) (h1 : at_ ≤ 18446744073709551615) :
    Spec Tryz.prog 111 [.pointer (some ⟨sb, 0, none⟩), .int .u64 at_, .slice a bs.length c] [Spc sb P m, A] (storeV A sb P m at_ bs) := by
  refine Spec.intro (IsEnt.out) Tryz.func111 rfl Tryz.ntmps111 (by simp) (fun w0 F => ?_)
  simp only [envOf, List.zipIdx, List.map, List.cons_append, List.nil_append, Nat.zero_add, Nat.reduceAdd]
  repeat (first | refine Zq ?_ | refine Zs ?_ | refine ZT ?_ | refine ZF ?_ | refine Zc ?_ | refine XO_gU (hk := ?_))
  refine XO_call (fits_spec sb P m at_ bs.length 1048576 hP0 hP h0 h1 (by omega) (by omega)) (hk := ?_)
  rintro _ _ ⟨rfl, rfl⟩
  repeat (first | refine Zq ?_ | refine Zs ?_ | refine ZT ?_ | refine ZF ?_ | refine Zc ?_ | refine XO_gU (hk := ?_))
  refine X_cond rfl (fun h => ?_) (fun h => ?_) <;> simp at h
  · repeat (first | refine Zq ?_ | refine Zs ?_ | refine ZT ?_ | refine ZF ?_ | refine Zc ?_ | refine XO_gU (hk := ?_))
    have hv : storeV A sb P m at_ bs = fun v L => v = .int .i64 (fitsI P at_ bs.length 1048576) ∧ L = [Spc sb P m, A] := by unfold storeV; rw [if_neg h]
    rw [hv]
    refine XE_ret (.inl rfl) (tells_tmps rfl rfl) ⟨_, ⟨rfl, rfl⟩, by ((try simp only [List.cons_append, List.nil_append]); repeat (first | exact ent_refl | refine ent_take (by repeat (first | exact Find.here | apply Find.there)) ?_ | refine ent_drop ?_))⟩
  have hv : storeV A sb P m at_ bs = fun v L => v = .int .i64 0 ∧ L = [Spc sb P (stM m at_ bs), A] := by unfold storeV; rw [if_pos h]
  rw [hv]
  have hf : at_ + bs.length ≤ P * 4096 ∧ (bs.length : Int) ≤ 1048576 := by
    unfold fitsI at h
    split at h
    · split at h
      · cases h
      · omega
    · cases h
  refine X_open .here Spc.open ?_
  rintro ⟨mb, M⟩ hM
  dsimp only [List.cons_append, List.nil_append] at hM ⊢
  repeat (first | refine Zq ?_ | refine Zs ?_ | refine ZT ?_ | refine ZF ?_ | refine Zc ?_ | refine XO_gU (hk := ?_))
  repeat (first | refine XD_pick (h := ?_) | refine Dq ?_ | refine Ds ?_ | refine XDi_gF (h := ?_) | refine XDi_gU (h := ?_) | refine X_draws (h := ?_))
  refine XD_one (h := ?_)
  refine XDa_dvA (dv_call (touched_spec at_ bs.length h0 (by omega) (by omega))) (hk := ?_)
  (rintro _ _ ⟨_, ⟨rfl, rfl⟩, rfl⟩; refine ⟨by (repeat (first | exact keeps_nil | exact keeps_fnil | refine keeps_skip (h := ?_) | refine keeps_takeQ (h := ?_))), ?_⟩)
  repeat (first | refine XD_pick (h := ?_) | refine Dq ?_ | refine Ds ?_ | refine XDi_gF (h := ?_) | refine XDi_gU (h := ?_) | refine X_draws (h := ?_))
  refine XD_one (h := ?_)
  refine XDa_dvk0 dv_store (K := _) (hk := ?_)
  rintro _ _ rfl
  refine ⟨by (repeat (first | exact keeps_nil | exact keeps_fnil | refine keeps_skip (h := ?_) | refine keeps_takeQ (h := ?_))), ?_⟩
  (refine XD_end (h := ?_); repeat (first | refine Zq ?_ | refine Zs ?_ | refine ZT ?_ | refine ZF ?_ | refine Zc ?_ | refine XO_gU (hk := ?_)))
  refine XO_fold (by repeat (first | exact FindAll.nil | exact Find.here | apply Find.there | apply FindAll.cons)) (Spc.fold hM) ?_
  refine XO_call (sstore_spec A sb c a P (ldM m at_ bs.length) at_ bs hV hB hc hP h0 hf.1) (hk := ?_)
  rintro _ _ ⟨rfl, rfl⟩
  repeat (first | refine Zq ?_ | refine Zs ?_ | refine ZT ?_ | refine ZF ?_ | refine Zc ?_ | refine XO_gU (hk := ?_))
  refine XE_ret (.inl rfl) (tells_tmps rfl rfl) ⟨_, ⟨rfl, rfl⟩, by ((try simp only [List.cons_append, List.nil_append]); repeat (first | exact ent_refl | refine ent_take (by repeat (first | exact Find.here | apply Find.there)) ?_ | refine ent_drop ?_))⟩
end Go.Proofs.YtamecmklcnohjaaGreat.Sep
namespace Go.Proofs.YtamecmklcnohjaaGreat.Sep
open Go.RowKit
set_option linter.unusedSimpArgs false
set_option linter.unusedVariables false
/-! headers: where they stand, whether they may be, what is read -/
def hdV (h : Hd) : Value := .agg #[.int .i64 h.pages, .int .i64 h.kind, .int .u64 h.owner, .int .u64 h.next]
def hatI (P page : Int) : Int := if 0 ≤ page ∧ page < P then page * 4096 else P * 4096
theorem hatI_bd {P page : Int} (h0 : 0 ≤ P) (h1 : P ≤ 1048576) : 0 ≤ hatI P page ∧ hatI P page ≤ 4294967296 := by unfold hatI; split <;> omega
set_option maxHeartbeats 8000000
attribute [local irreducible] X XE XO XD XDi XDa PV RV DV pt base Spec Sl Mp Keeps Pgs Spc
theorem hat_spec (sb : Nat) (P : Int) (m : Mm) (page : Int) (h0 : 0 ≤ P) (h1 : P ≤ 1048576) : Spec Tryz.prog 162 [.pointer (some ⟨sb, 0, none⟩), .int .i64 page] [Spc sb P m] (fun v L => v = .int .u64 (hatI P page) ∧ L = [Spc sb P m]) := by
  refine Spec.intro (IsEnt.out) Tryz.func162 rfl Tryz.ntmps162 (by simp) (fun w0 F => ?_)
  simp only [envOf, List.zipIdx, List.map, List.cons_append, List.nil_append, Nat.zero_add, Nat.reduceAdd]
  repeat (first | refine Zq ?_ | refine Zs ?_ | refine ZT ?_ | refine ZF ?_ | refine Zc ?_ | refine XO_gU (hk := ?_))
  refine XO_either (hT := fun h => ?_) (hF := fun h => ?_) <;> simp only [decide_eq_true_eq, decide_eq_false_iff_not] at h
  · repeat (first | refine Zq ?_ | refine Zs ?_ | refine ZT ?_ | refine ZF ?_ | refine Zc ?_ | refine XO_gU (hk := ?_))
    refine X_cond rfl (fun _ => ?_) (fun h => by cases h)
    repeat (first | refine Zq ?_ | refine Zs ?_ | refine ZT ?_ | refine ZF ?_ | refine Zc ?_ | refine XO_gU (hk := ?_))
    refine XO_call (ssize_spec sb P m h0 h1) (hk := ?_)
    rintro _ _ ⟨rfl, rfl⟩
    repeat (first | refine Zq ?_ | refine Zs ?_ | refine ZT ?_ | refine ZF ?_ | refine Zc ?_ | refine XO_gU (hk := ?_))
    unfold hatI
    rw [if_neg (by omega)]
    refine XE_ret (.inl rfl) (tells_tmps rfl rfl) ⟨_, ⟨rfl, rfl⟩, by ((try simp only [List.cons_append, List.nil_append]); repeat (first | exact ent_refl | refine ent_take (by repeat (first | exact Find.here | apply Find.there)) ?_ | refine ent_drop ?_))⟩
  · repeat (first | refine Zq ?_ | refine Zs ?_ | refine ZT ?_ | refine ZF ?_ | refine Zc ?_ | refine XO_gU (hk := ?_))
    refine XO_call (spages_spec sb P m) (hk := ?_)
    rintro _ _ ⟨rfl, rfl⟩
    repeat (first | refine Zq ?_ | refine Zs ?_ | refine ZT ?_ | refine ZF ?_ | refine Zc ?_ | refine XO_gU (hk := ?_))
    refine X_cond rfl (fun h2 => ?_) (fun h2 => ?_) <;> simp only [decide_eq_true_eq, decide_eq_false_iff_not] at h2
    · repeat (first | refine Zq ?_ | refine Zs ?_ | refine ZT ?_ | refine ZF ?_ | refine Zc ?_ | refine XO_gU (hk := ?_))
      refine XO_call (ssize_spec sb P m h0 h1) (hk := ?_)
      rintro _ _ ⟨rfl, rfl⟩
      repeat (first | refine Zq ?_ | refine Zs ?_ | refine ZT ?_ | refine ZF ?_ | refine Zc ?_ | refine XO_gU (hk := ?_))
      unfold hatI
      rw [if_neg (by omega)]
      refine XE_ret (.inl rfl) (tells_tmps rfl rfl) ⟨_, ⟨rfl, rfl⟩, by ((try simp only [List.cons_append, List.nil_append]); repeat (first | exact ent_refl | refine ent_take (by repeat (first | exact Find.here | apply Find.there)) ?_ | refine ent_drop ?_))⟩
    · repeat (first | refine Zq ?_ | refine Zs ?_ | refine ZT ?_ | refine ZF ?_ | refine Zc ?_ | refine XO_gU (hk := ?_))
      unfold hatI
      rw [if_pos (by omega)]
      refine XE_ret (.inl rfl) (tells_tmps rfl rfl) ⟨_, ⟨rfl, rfl⟩, by ((try simp only [List.cons_append, List.nil_append]); repeat (first | exact ent_refl | refine ent_take (by repeat (first | exact Find.here | apply Find.there)) ?_ | refine ent_drop ?_))⟩
theorem hright_spec (h : Hd) : Spec Tryz.prog 183 [hdV h] [] (fun v L => v = .bool (decide (HdOk h)) ∧ L = []) := by
  refine Spec.intro (IsEnt.out) Tryz.func183 rfl Tryz.ntmps183 (by simp) (fun w0 F => ?_)
  simp only [envOf, List.zipIdx, List.map, List.cons_append, List.nil_append, Nat.zero_add, Nat.reduceAdd]
  unfold hdV
  repeat (first | refine Zq ?_ | refine Zs ?_ | refine ZT ?_ | refine ZF ?_ | refine Zc ?_ | refine XO_gU (hk := ?_))
  refine XO_dv (dv_box (row := [.int .i64 h.pages, .int .i64 h.kind, .int .u64 h.owner, .int .u64 h.next])) (hk := ?_)
  rintro _ _ ⟨hb, rfl, rfl⟩
  repeat (first | refine Zq ?_ | refine Zs ?_ | refine ZT ?_ | refine ZF ?_ | refine Zc ?_ | refine XO_gU (hk := ?_))
  refine XO_either (hT := fun h1 => ?_) (hF := fun h1 => ?_) <;> simp only [decide_eq_true_eq, decide_eq_false_iff_not] at h1
  · repeat (first | refine Zq ?_ | refine Zs ?_ | refine ZT ?_ | refine ZF ?_ | refine Zc ?_ | refine XO_gU (hk := ?_))
    refine XO_either (hT := fun h2 => ?_) (hF := fun h2 => ?_) <;> simp only [decide_eq_true_eq, decide_eq_false_iff_not] at h2
    · repeat (first | refine Zq ?_ | refine Zs ?_ | refine ZT ?_ | refine ZF ?_ | refine Zc ?_ | refine XO_gU (hk := ?_))
      refine XO_either (hT := fun h3 => ?_) (hF := fun h3 => ?_) <;> simp only [decide_eq_true_eq, decide_eq_false_iff_not] at h3
      · repeat (first | refine Zq ?_ | refine Zs ?_ | refine ZT ?_ | refine ZF ?_ | refine Zc ?_ | refine XO_gU (hk := ?_))
        refine XE_ret (.inl rfl) (tells_tmps rfl rfl) ⟨_, ⟨?_, rfl⟩, by ((try simp only [List.cons_append, List.nil_append]); repeat (first | exact ent_refl | refine ent_take (by repeat (first | exact Find.here | apply Find.there)) ?_ | refine ent_drop ?_))⟩
        exact congrArg Value.bool (decide_eq_decide.2 (by unfold HdOk; omega))
      · repeat (first | refine Zq ?_ | refine Zs ?_ | refine ZT ?_ | refine ZF ?_ | refine Zc ?_ | refine XO_gU (hk := ?_))
        refine XE_ret (.inl rfl) (tells_tmps rfl rfl) ⟨_, ⟨?_, rfl⟩, by ((try simp only [List.cons_append, List.nil_append]); repeat (first | exact ent_refl | refine ent_take (by repeat (first | exact Find.here | apply Find.there)) ?_ | refine ent_drop ?_))⟩
        exact congrArg Value.bool (decide_eq_false (by unfold HdOk; omega)).symm
    · repeat (first | refine Zq ?_ | refine Zs ?_ | refine ZT ?_ | refine ZF ?_ | refine Zc ?_ | refine XO_gU (hk := ?_))
      refine XE_ret (.inl rfl) (tells_tmps rfl rfl) ⟨_, ⟨?_, rfl⟩, by ((try simp only [List.cons_append, List.nil_append]); repeat (first | exact ent_refl | refine ent_take (by repeat (first | exact Find.here | apply Find.there)) ?_ | refine ent_drop ?_))⟩
      exact congrArg Value.bool (decide_eq_false (by unfold HdOk; omega)).symm
  · repeat (first | refine Zq ?_ | refine Zs ?_ | refine ZT ?_ | refine ZF ?_ | refine Zc ?_ | refine XO_gU (hk := ?_))
    refine XE_ret (.inl rfl) (tells_tmps rfl rfl) ⟨_, ⟨?_, rfl⟩, by ((try simp only [List.cons_append, List.nil_append]); repeat (first | exact ent_refl | refine ent_take (by repeat (first | exact Find.here | apply Find.there)) ?_ | refine ent_drop ?_))⟩
    exact congrArg Value.bool (decide_eq_false (by unfold HdOk; omega)).symm
theorem hget_spec (cb ob : Nat) (xs : List Int) (at_ : Nat) (w : Int) (hw : w = 1 ∨ w = 2 ∨ w = 4 ∨ w = 8) (hl : xs.length = 32) (h : (at_ : Int) + w ≤ 32) (hB : Byt xs) :
    Spec Tryz.prog 186 [.int .i64 at_, .int .i64 w, .pointer (some ⟨cb, 0, none⟩)] [pt cb (.cells [.slice (some ⟨ob, 0, none⟩) 32 32].toArray 56 (0, 0)), Sl (eI .u8) (some ⟨ob, 0, none⟩) 32 xs]
      (fun v L => v = .int .u64 (leN ((xs.drop at_).take w.toNat)) ∧ L = [pt cb (.cells [.slice (some ⟨ob, 0, none⟩) 32 32].toArray 56 (0, 0)), Sl (eI .u8) (some ⟨ob, 0, none⟩) 32 xs]) := by
  refine Spec.intro (IsEnt.out) Tryz.func186 rfl Tryz.ntmps186 (by simp) (fun w0 F => ?_)
  simp only [envOf, List.zipIdx, List.map, List.cons_append, List.nil_append, Nat.zero_add, Nat.reduceAdd]
  repeat (first | refine Zq ?_ | refine Zs ?_ | refine ZT ?_ | refine ZF ?_ | refine Zc ?_ | refine XO_gU (hk := ?_))
  have hg := wget_spec (Sl (eI .u8) (some ⟨ob, 0, none⟩) 32 xs) ob 0 32 at_ xs w hw (by omega) (by omega) Sl.view hB
  rw [hl] at hg
  refine XO_call hg (hk := ?_)
  rintro _ _ ⟨rfl, rfl⟩
  repeat (first | refine Zq ?_ | refine Zs ?_ | refine ZT ?_ | refine ZF ?_ | refine Zc ?_ | refine XO_gU (hk := ?_))
  refine XE_ret (.inl rfl) (tells_tmps rfl rfl) ⟨_, ⟨rfl, rfl⟩, by ((try simp only [List.cons_append, List.nil_append]); repeat (first | exact ent_refl | refine ent_take (by repeat (first | exact Find.here | apply Find.there)) ?_ | refine ent_drop ?_))⟩
end Go.Proofs.YtamecmklcnohjaaGreat.Sep
namespace Go.Proofs.YtamecmklcnohjaaGreat.Sep
open Go.RowKit
set_option linter.unusedSimpArgs false
set_option linter.unusedVariables false
/-! headers that are read -/
def hd0 : Hd := ⟨0, 0, 0, 0⟩
/-- What is read at a page. -/
def readI (P : Int) (m : Int → Int) (page : Int) : Hd × Int :=
  if 0 ≤ page ∧ page < P then (match hdRead (rdM m (page * 4096) 32) with
    | some h => (h, 0)
    | none => (hd0, 5)) else (hd0, 3)
def asB (l : List Int) : List UInt8 := l.map fun b => UInt8.ofNat b.toNat
theorem asB_back {l : List Int} (h : Byt l) : (asB l).map (fun b => (b.toNat : Int)) = l := by
  unfold asB
  rw [List.map_map]
  conv => rhs; rw [← List.map_id l]
  apply List.map_congr_left
  intro b hb
  have := h b hb
  simp only [Function.comp, id, UInt8.toNat_ofNat']
  omega
theorem asB_inj {l l' : List Int} (h : Byt l) (h' : Byt l') : asB l = asB l' ↔ l = l' := ⟨fun e => by rw [← asB_back h, ← asB_back h', e], fun e => by rw [e]⟩
theorem magic_eq {l : List Int} (h : Byt l) : (!((ByteArray.mk (asB l).toArray).toList == (ByteArray.mk #[115, 116, 101, 97, 100, 105, 110, 103]).toList)) = !decide (l = magicB) := by
  rw [ByteArray.toList_eq, ByteArray.toList_eq]
  have e : (ByteArray.mk #[115, 116, 101, 97, 100, 105, 110, 103]).data.toList = asB magicB := rfl
  rw [e]
  congr 1
  have hm : Byt magicB := fun b hb => by simp [magicB] at hb; omega
  have := asB_inj h hm
  by_cases hl : l = magicB
  · simp [hl]
  · have h2 : ¬ asB l = asB magicB := fun h3 => hl (this.1 h3)
    simp [hl, h2]
/-- What is touched by a header that is read. -/
def hrM (P : Int) (m : Mm) (page : Int) : Mm := ⟨m.f, if 0 ≤ page ∧ page < P then IntKind.i64.wrap (m.t + 1) else m.t⟩
theorem ldM_hr {P : Int} {m : Mm} {page : Int} (h : 0 ≤ page ∧ page < P) : ldM m (page * 4096) 32 = hrM P m page := by
  unfold ldM hrM
  rw [touch_hdr, if_pos h]
theorem hrM_out {P : Int} {m : Mm} {page : Int} (h : ¬ (0 ≤ page ∧ page < P)) : hrM P m page = m := by
  unfold hrM
  rw [if_neg h]
set_option maxHeartbeats 8000000
attribute [local irreducible] X XE XO XD XDi XDa PV RV DV pt base Spec Sl Mp Keeps Pgs Spc
theorem hread_spec (sb : Nat) (P : Int) (m : Mm) (page : Int) (h0 : 0 ≤ P) (h1 : P ≤ 1048576) : Spec Tryz.prog 160 [.pointer (some ⟨sb, 0, none⟩), .int .i64 page] [Spc sb P m] (fun v L => v = .tuple #[hdV (readI P m.f page).1, .int .i64 (readI P m.f page).2] ∧ L = [Spc sb P (hrM P m page)]) := by
  refine Spec.intro (IsEnt.out) Tryz.func160 rfl Tryz.ntmps160 (by simp) (fun w0 F => ?_)
  simp only [envOf, List.zipIdx, List.map, List.cons_append, List.nil_append, Nat.zero_add, Nat.reduceAdd]
  repeat (first | refine Zq ?_ | refine Zs ?_ | refine ZT ?_ | refine ZF ?_ | refine Zc ?_ | refine XO_gU (hk := ?_))
  refine XO_dv (dv_alloc (row := [.int .i64 0, .int .i64 0, .int .u64 0, .int .u64 0])) (hk := ?_)
  rintro _ _ ⟨rb, rfl, rfl⟩
  repeat (first | refine Zq ?_ | refine Zs ?_ | refine ZT ?_ | refine ZF ?_ | refine Zc ?_ | refine XO_gU (hk := ?_))
  refine XO_call (hat_spec sb P m page h0 h1) (hk := ?_)
  rintro _ _ ⟨rfl, rfl⟩
  obtain ⟨b0, b1⟩ := hatI_bd (page := page) h0 h1
  refine XO_fact (A := Spc sb P m) (by (repeat (first | exact Find.here | apply Find.there))) Spc.byt (fun hbyt => ?_)
  have hxB : Byt (rdM m.f (page * 4096) 32) := fun b hb => by
    obtain ⟨j, hj, rfl⟩ := List.mem_map.1 hb
    exact hbyt _
  refine XO_call (Load_spec sb P m (hatI P page) 32 h0 h1 b0 (by omega) (by omega) (by omega)) (hk := ?_)
  by_cases hin : 0 ≤ page ∧ page < P
  · have ha : hatI P page = page * 4096 := by unfold hatI; rw [if_pos hin]
    have hf : fitsI P (hatI P page) 32 1048576 = 0 := by unfold fitsI; rw [if_pos (by omega), if_neg (by omega)]
    have hv : loadV sb P m (hatI P page) 32 = fun v L => ∃ ob, v = .tuple #[.slice (some ⟨ob, 0, none⟩) 32 32, .int .i64 0] ∧ L = [Spc sb P (hrM P m page), Sl (eI .u8) (some ⟨ob, 0, none⟩) 32 (rdM m.f (page * 4096) 32)] := by unfold loadV; rw [if_pos hf, ha, ldM_hr hin]; rfl
    rw [hv]
    rintro _ _ ⟨ob, rfl, rfl⟩
    have hxl : (rdM m.f (page * 4096) 32).length = 32 := rdM_len _ _ _
    have hrd : readI P m.f page = match hdRead (rdM m.f (page * 4096) 32) with
      | some h => (h, 0)
      | none => (hd0, 5) := by unfold readI; rw [if_pos hin]
    rw [hrd]
    generalize rdM m.f (page * 4096) 32 = xs at hxB hxl ⊢
    repeat (first | refine Zq ?_ | refine Zs ?_ | refine ZT ?_ | refine ZF ?_ | refine Zc ?_ | refine XO_gU (hk := ?_))
    refine XO_dv (dv_alloc (row := [.slice none 0 0])) (hk := ?_)
    rintro _ _ ⟨cb, rfl, rfl⟩
    refine XO_dv0 (dv_store (row' := [.slice (some ⟨ob, 0, none⟩) 32 32])) (hk := ?_)
    rintro _ _ rfl
    repeat (first | refine Zq ?_ | refine Zs ?_ | refine ZT ?_ | refine ZF ?_ | refine Zc ?_ | refine XO_gU (hk := ?_))
    refine X_cond rfl (fun h => by cases h) (fun _ => ?_)
    have hpart : ∀ i w : Nat, Byt ((xs.drop i).take w) := fun i w x hx => hxB x ((List.drop_subset _ _) ((List.take_subset _ _) hx))
    have g1 : 0 ≤ leN ((xs.drop 8).take (4 : Int).toNat) ∧ leN ((xs.drop 8).take (4 : Int).toNat) < 4294967296 := by
      have := leN_nn (hpart 8 4)
      rw [List.length_take, List.length_drop, hxl] at this
      exact this
    have g2 : 0 ≤ leN ((xs.drop 12).take (4 : Int).toNat) ∧ leN ((xs.drop 12).take (4 : Int).toNat) < 4294967296 := by
      have := leN_nn (hpart 12 4)
      rw [List.length_take, List.length_drop, hxl] at this
      exact this
    repeat (first | refine Zq ?_ | refine Zs ?_ | refine ZT ?_ | refine ZF ?_ | refine Zc ?_ | refine XO_gU (hk := ?_))
    refine XO_call (hget_spec cb ob xs 8 4 (by omega) hxl (by omega) hxB) (hk := ?_)
    rintro _ _ ⟨rfl, rfl⟩
    repeat (first | refine Zq ?_ | refine Zs ?_ | refine ZT ?_ | refine ZF ?_ | refine Zc ?_ | refine XO_gU (hk := ?_))
    refine XO_call (hget_spec cb ob xs 12 4 (by omega) hxl (by omega) hxB) (hk := ?_)
    rintro _ _ ⟨rfl, rfl⟩
    repeat (first | refine Zq ?_ | refine Zs ?_ | refine ZT ?_ | refine ZF ?_ | refine Zc ?_ | refine XO_gU (hk := ?_))
    refine XO_call (hget_spec cb ob xs 16 8 (by omega) hxl (by omega) hxB) (hk := ?_)
    rintro _ _ ⟨rfl, rfl⟩
    repeat (first | refine Zq ?_ | refine Zs ?_ | refine ZT ?_ | refine ZF ?_ | refine Zc ?_ | refine XO_gU (hk := ?_))
    refine XO_call (hget_spec cb ob xs 24 8 (by omega) hxl (by omega) hxB) (hk := ?_)
    rintro _ _ ⟨rfl, rfl⟩
    repeat (first | refine Zq ?_ | refine Zs ?_ | refine ZT ?_ | refine ZF ?_ | refine Zc ?_ | refine XO_gU (hk := ?_))
    refine XO_dv (dv_alloc (row := [.int .i64 0, .int .i64 0, .int .u64 0, .int .u64 0])) (hk := ?_)
    rintro _ _ ⟨hb, rfl, rfl⟩
    refine XO_dv0 (dv_storeW (vs := [.int .i64 (hdOf xs).pages, .int .i64 (hdOf xs).kind, .int .u64 (hdOf xs).owner, .int .u64 (hdOf xs).next])) (hk := ?_)
    rintro _ _ rfl
    repeat (first | refine Zq ?_ | refine Zs ?_ | refine ZT ?_ | refine ZF ?_ | refine Zc ?_ | refine XO_gU (hk := ?_))
    refine XO_rv (rv_stringOf (asB (xs.take 8)) (b := ob) (o := 0) (m := 8) (c := 32) (A := Sl (eI .u8) (some ⟨ob, 0, none⟩) 32 xs) (hx := rfl) (hV := Sl.view) (hm := by omega) (hl := asB_back (fun x hx => hxB x (List.take_subset _ _ hx)))) (hk := ?_)
    refine XO_pv pv_neStr (hk := ?_)
    refine XO_reval 37 (.bool (!decide (xs.take 8 = magicB))) (hv := congrArg Value.bool (magic_eq (fun x hx => hxB x (List.take_subset _ _ hx)))) (hk := ?_)
    repeat (first | refine Zq ?_ | refine Zs ?_ | refine ZT ?_ | refine ZF ?_ | refine Zc ?_ | refine XO_gU (hk := ?_))
    refine XO_either (hT := fun h2 => ?_) (hF := fun h2 => ?_) <;> simp only [Bool.not_eq_true', Bool.not_eq_false', decide_eq_true_eq, decide_eq_false_iff_not] at h2
    · repeat (first | refine Zq ?_ | refine Zs ?_ | refine ZT ?_ | refine ZF ?_ | refine Zc ?_ | refine XO_gU (hk := ?_))
      refine X_cond rfl (fun _ => ?_) (fun h => by cases h)
      repeat (first | refine Zq ?_ | refine Zs ?_ | refine ZT ?_ | refine ZF ?_ | refine Zc ?_ | refine XO_gU (hk := ?_))
      have hr : hdRead xs = none := by unfold hdRead; rw [if_neg (fun h => h2 h.1)]
      rw [hr]
      refine XO_dv0 (dv_storeW (vs := [.int .i64 0, .int .i64 0, .int .u64 0, .int .u64 0])) (hk := ?_)
      rintro _ _ rfl
      repeat (first | refine Zq ?_ | refine Zs ?_ | refine ZT ?_ | refine ZF ?_ | refine Zc ?_ | refine XO_gU (hk := ?_))
      refine XE_ret (.inl rfl) (tells_many (rs := [.cell _ _, .tmp _]) (vs := [_, _]) rfl ⟨told_cell, told_tmp, trivial⟩) ⟨_, ⟨rfl, rfl⟩, by ((try simp only [List.cons_append, List.nil_append]); repeat (first | exact ent_refl | refine ent_take (by repeat (first | exact Find.here | apply Find.there)) ?_ | refine ent_drop ?_))⟩
    · repeat (first | refine Zq ?_ | refine Zs ?_ | refine ZT ?_ | refine ZF ?_ | refine Zc ?_ | refine XO_gU (hk := ?_))
      refine XO_call (hright_spec (hdOf xs)) (hk := ?_)
      rintro _ _ ⟨rfl, rfl⟩
      repeat (first | refine Zq ?_ | refine Zs ?_ | refine ZT ?_ | refine ZF ?_ | refine Zc ?_ | refine XO_gU (hk := ?_))
      refine X_cond rfl (fun h3 => ?_) (fun h3 => ?_) <;> simp only [Bool.not_eq_true', Bool.not_eq_false', decide_eq_true_eq, decide_eq_false_iff_not] at h3
      · have hr : hdRead xs = none := by unfold hdRead; rw [if_neg (fun h => h3 h.2)]
        rw [hr]
        repeat (first | refine Zq ?_ | refine Zs ?_ | refine ZT ?_ | refine ZF ?_ | refine Zc ?_ | refine XO_gU (hk := ?_))
        refine XO_dv0 (dv_storeW (vs := [.int .i64 0, .int .i64 0, .int .u64 0, .int .u64 0])) (hk := ?_)
        rintro _ _ rfl
        repeat (first | refine Zq ?_ | refine Zs ?_ | refine ZT ?_ | refine ZF ?_ | refine Zc ?_ | refine XO_gU (hk := ?_))
        refine XE_ret (.inl rfl) (tells_many (rs := [.cell _ _, .tmp _]) (vs := [_, _]) rfl ⟨told_cell, told_tmp, trivial⟩) ⟨_, ⟨rfl, rfl⟩, by ((try simp only [List.cons_append, List.nil_append]); repeat (first | exact ent_refl | refine ent_take (by repeat (first | exact Find.here | apply Find.there)) ?_ | refine ent_drop ?_))⟩
      · have hr : hdRead xs = some (hdOf xs) := by unfold hdRead; rw [if_pos ⟨h2, h3⟩]
        rw [hr]
        repeat (first | refine Zq ?_ | refine Zs ?_ | refine ZT ?_ | refine ZF ?_ | refine Zc ?_ | refine XO_gU (hk := ?_))
        refine XO_dv0 (dv_storeW (vs := [.int .i64 (hdOf xs).pages, .int .i64 (hdOf xs).kind, .int .u64 (hdOf xs).owner, .int .u64 (hdOf xs).next])) (hk := ?_)
        rintro _ _ rfl
        repeat (first | refine Zq ?_ | refine Zs ?_ | refine ZT ?_ | refine ZF ?_ | refine Zc ?_ | refine XO_gU (hk := ?_))
        refine XE_ret (.inl rfl) (tells_many (rs := [.cell _ _, .tmp _]) (vs := [_, _]) rfl ⟨told_cell, told_tmp, trivial⟩) ⟨_, ⟨rfl, rfl⟩, by ((try simp only [List.cons_append, List.nil_append]); repeat (first | exact ent_refl | refine ent_take (by repeat (first | exact Find.here | apply Find.there)) ?_ | refine ent_drop ?_))⟩
  · have ha : hatI P page = P * 4096 := by unfold hatI; rw [if_neg hin]
    have hf : fitsI P (hatI P page) 32 1048576 = 3 := by unfold fitsI; rw [if_neg (by omega)]
    have hv : loadV sb P m (hatI P page) 32 = fun v L => v = .tuple #[.slice none 0 0, .int .i64 3] ∧ L = [Spc sb P m] := by unfold loadV; rw [if_neg (by rw [hf]; decide), hf]
    rw [hv]
    rintro _ _ ⟨rfl, rfl⟩
    have hrd : readI P m.f page = (hd0, 3) := by unfold readI; rw [if_neg hin]
    rw [hrd, hrM_out hin]
    repeat (first | refine Zq ?_ | refine Zs ?_ | refine ZT ?_ | refine ZF ?_ | refine Zc ?_ | refine XO_gU (hk := ?_))
    refine XO_dv (dv_alloc (row := [.slice none 0 0])) (hk := ?_)
    rintro _ _ ⟨cb, rfl, rfl⟩
    refine XO_dv0 (dv_store (row' := [.slice none 0 0])) (hk := ?_)
    rintro _ _ rfl
    repeat (first | refine Zq ?_ | refine Zs ?_ | refine ZT ?_ | refine ZF ?_ | refine Zc ?_ | refine XO_gU (hk := ?_))
    refine X_cond rfl (fun _ => ?_) (fun h => by cases h)
    repeat (first | refine Zq ?_ | refine Zs ?_ | refine ZT ?_ | refine ZF ?_ | refine Zc ?_ | refine XO_gU (hk := ?_))
    refine XO_dv0 (dv_storeW (vs := [.int .i64 0, .int .i64 0, .int .u64 0, .int .u64 0])) (hk := ?_)
    rintro _ _ rfl
    repeat (first | refine Zq ?_ | refine Zs ?_ | refine ZT ?_ | refine ZF ?_ | refine Zc ?_ | refine XO_gU (hk := ?_))
    refine XE_ret (.inl rfl) (tells_many (rs := [.cell _ _, .tmp _]) (vs := [_, _]) rfl ⟨told_cell, told_tmp, trivial⟩) ⟨_, ⟨rfl, rfl⟩, by ((try simp only [List.cons_append, List.nil_append]); repeat (first | exact ent_refl | refine ent_take (by repeat (first | exact Find.here | apply Find.there)) ?_ | refine ent_drop ?_))⟩
end Go.Proofs.YtamecmklcnohjaaGreat.Sep
namespace Go.Proofs.YtamecmklcnohjaaGreat.Sep
open Go.RowKit
set_option linter.unusedSimpArgs false
set_option linter.unusedVariables false
/-! bytes that are made 0 -/
def tb (T : List (Int × Nat)) : List (Int × Option Nat) := T.map fun z => (z.1, some z.2)
structure ZInv (P : Int) (m : Int → Int) (at_ n : Int) (M : List (Int × Nat × List Int)) (T : List (Int × Nat)) : Prop where
  mem : ∀ a, memOf M a = if a / 4096 ∈ T.map (·.1) then m a else zrM m at_ n a
  len : ∀ q ∈ M, 0 ≤ q.1 ∧ q.1 < P ∧ q.2.2.length = 4096
  sub : ∀ z ∈ T, ∃ ys, (z.1, z.2, ys) ∈ M
  nd : (T.map (·.1)).Nodup
def zpage (at_ n p : Int) (ys : List Int) : List Int :=
  if min (at_ + n) (p * 4096 + 4096) ≤ max at_ (p * 4096) then ys
  else cutIn ys (max at_ (p * 4096) - p * 4096).toNat (List.replicate (min (at_ + n) (p * 4096 + 4096) - max at_ (p * 4096)).toNat 0)
theorem memOf_mid {M1 M2 : List (Int × Nat × List Int)} {p : Int} {b : Nat} {ys : List Int} (hn : lk M1 p = none) {a : Int} (ha : a / 4096 ≠ p) (ys' : List Int) : memOf (M1 ++ (p, b, ys') :: M2) a = memOf (M1 ++ (p, b, ys) :: M2) a := by
  rw [← ins_split (v := (b, ys)) hn]
  unfold memOf
  rw [lk_ins, if_neg ha]
theorem zinv_step {P : Int} {m : Int → Int} {at_ n p : Int} {b : Nat} {ys : List Int} {M1 M2 : List (Int × Nat × List Int)} {T1 T2 : List (Int × Nat)} (h : ZInv P m at_ n (M1 ++ (p, b, ys) :: M2) (T1 ++ (p, b) :: T2)) (hn : lk M1 p = none) :
    ZInv P m at_ n (M1 ++ (p, b, zpage at_ n p ys) :: M2) (T1 ++ T2) := by
  have hl := (h.len (p, b, ys) (by simp)).2.2
  have hlk : lk (M1 ++ (p, b, ys) :: M2) p = some (b, ys) := lk_mid hn
  have hnd := h.nd
  rw [List.map_append, List.map_cons, List.nodup_append] at hnd
  obtain ⟨n1, n2, n3⟩ := hnd
  rw [List.nodup_cons] at n2
  have hp1 : p ∉ T1.map (·.1) := fun hp => n3 p hp p (by simp) rfl
  have hzl : (zpage at_ n p ys).length = 4096 := by
    unfold zpage
    split
    · exact hl
    · rw [cutIn_len (by rw [List.length_replicate, hl]; omega)]; exact hl
  refine ⟨fun a => ?_, fun q hq => ?_, fun z hz => ?_, ?_⟩
  · by_cases ha : a / 4096 = p
    · have hin : ¬ a / 4096 ∈ (T1 ++ T2).map (·.1) := by
        rw [ha, List.map_append, List.mem_append]
        rintro (hx | hx)
        · exact hp1 hx
        · exact n2.1 hx
      rw [if_neg hin]
      have hm := h.mem a
      rw [if_pos (by rw [ha]; simp)] at hm
      unfold zpage
      split
      · rw [hm]; unfold zrM; rw [if_neg (by omega)]
      · rw [← ins_split (v := (b, ys)) hn, memOf_put hlk hl (by rw [List.length_replicate]; omega)]
        unfold wrM zrM
        rw [List.length_replicate]
        by_cases hc : at_ ≤ a ∧ a < at_ + n
        · rw [if_pos hc, if_pos (by omega)]; exact rep0 _ _
        · rw [if_neg hc, if_neg (by omega), hm]
    · rw [memOf_mid hn ha, h.mem a]
      have e : a / 4096 ∈ (T1 ++ (p, b) :: T2).map (·.1) ↔ a / 4096 ∈ (T1 ++ T2).map (·.1) := by
        simp only [List.map_append, List.map_cons, List.mem_append, List.mem_cons, ha, false_or]
      by_cases hx : a / 4096 ∈ (T1 ++ T2).map (·.1)
      · rw [if_pos hx, if_pos (e.2 hx)]
      · rw [if_neg hx, if_neg (fun h => hx (e.1 h))]
  · rcases List.mem_append.1 hq with hq | hq
    · exact h.len q (by simp [hq])
    · rcases List.mem_cons.1 hq with rfl | hq
      · exact ⟨(h.len (p, b, ys) (by simp)).1, (h.len (p, b, ys) (by simp)).2.1, hzl⟩
      · exact h.len q (by simp [hq])
  · have hz' : z ∈ T1 ++ (p, b) :: T2 := by rcases List.mem_append.1 hz with hz | hz <;> simp [hz]
    have hne : z.1 ≠ p := by
      rintro rfl
      rcases List.mem_append.1 hz with hz | hz
      · exact hp1 (List.mem_map.2 ⟨z, hz, rfl⟩)
      · exact n2.1 (List.mem_map.2 ⟨z, hz, rfl⟩)
    obtain ⟨zs, hzs⟩ := h.sub z hz'
    refine ⟨zs, ?_⟩
    rcases List.mem_append.1 hzs with hx | hx
    · simp [hx]
    · rcases List.mem_cons.1 hx with hx | hx
      · exact absurd (congrArg (·.1) hx) hne
      · simp [hx]
  · rw [List.map_append, List.nodup_append]
    exact ⟨n1, n2.2, fun a ha c hc => n3 a ha c (List.mem_cons_of_mem _ hc)⟩
theorem lk_skip {M1 M2 : List (Int × Nat × List Int)} {p : Int} {v : Nat × List Int} {k : Int} (h : k ≠ p) : lk (M1 ++ (p, v) :: M2) k = lk (M1 ++ M2) k := by
  induction M1 with
  | nil => simp [lk, h]
  | cons q M1 ih => obtain ⟨a, u⟩ := q; simp only [List.cons_append, lk]; split; rfl; exact ih
theorem zinv_del {P : Int} {m : Int → Int} {at_ n p : Int} {b : Nat} {ys : List Int} {M1 M2 : List (Int × Nat × List Int)} {T1 T2 : List (Int × Nat)} (h : ZInv P m at_ n (M1 ++ (p, b, ys) :: M2) (T1 ++ (p, b) :: T2)) (hn : lk (M1 ++ M2) p = none)
    (hf : at_ ≤ p * 4096 ∧ p * 4096 + 4096 ≤ at_ + n) : ZInv P m at_ n (M1 ++ M2) (T1 ++ T2) := by
  have hnd := h.nd
  rw [List.map_append, List.map_cons, List.nodup_append] at hnd
  obtain ⟨n1, n2, n3⟩ := hnd
  rw [List.nodup_cons] at n2
  have hp1 : p ∉ T1.map (·.1) := fun hp => n3 p hp p (by simp) rfl
  refine ⟨fun a => ?_, fun q hq => h.len q (by rcases List.mem_append.1 hq with hq | hq <;> simp [hq]), fun z hz => ?_, ?_⟩
  · by_cases ha : a / 4096 = p
    · have hin : ¬ a / 4096 ∈ (T1 ++ T2).map (·.1) := by
        rw [ha, List.map_append, List.mem_append]
        rintro (hx | hx)
        · exact hp1 hx
        · exact n2.1 hx
      rw [if_neg hin]
      unfold memOf zrM
      rw [ha, hn, if_pos (by omega)]
    · have hm := h.mem a
      have e : a / 4096 ∈ (T1 ++ (p, b) :: T2).map (·.1) ↔ a / 4096 ∈ (T1 ++ T2).map (·.1) := by
        simp only [List.map_append, List.map_cons, List.mem_append, List.mem_cons, ha, false_or]
      have e2 : memOf (M1 ++ (p, b, ys) :: M2) a = memOf (M1 ++ M2) a := by unfold memOf; rw [lk_skip ha]
      rw [e2] at hm
      rw [hm]
      by_cases hx : a / 4096 ∈ (T1 ++ T2).map (·.1)
      · rw [if_pos hx, if_pos (e.2 hx)]
      · rw [if_neg hx, if_neg (fun h => hx (e.1 h))]
  · have hz' : z ∈ T1 ++ (p, b) :: T2 := by rcases List.mem_append.1 hz with hz | hz <;> simp [hz]
    have hne : z.1 ≠ p := by
      rintro rfl
      rcases List.mem_append.1 hz with hz | hz
      · exact hp1 (List.mem_map.2 ⟨z, hz, rfl⟩)
      · exact n2.1 (List.mem_map.2 ⟨z, hz, rfl⟩)
    obtain ⟨zs, hzs⟩ := h.sub z hz'
    refine ⟨zs, ?_⟩
    rcases List.mem_append.1 hzs with hx | hx
    · simp [hx]
    · rcases List.mem_cons.1 hx with hx | hx
      · exact absurd (congrArg (·.1) hx) hne
      · simp [hx]
  · rw [List.map_append, List.nodup_append]
    exact ⟨n1, n2.2, fun a ha c hc => n3 a ha c (List.mem_cons_of_mem _ hc)⟩
theorem zinv_start {P : Int} {m : Int → Int} {at_ n : Int} {M : List (Int × Nat × List Int)} (h : SpOk P m M) (hnd : (M.map (·.1)).Nodup) : ZInv P m at_ n M (M.map fun q => (q.1, q.2.1)) := by
  have e : (M.map fun q => (q.1, q.2.1)).map (·.1) = M.map (·.1) := by rw [List.map_map]; rfl
  refine ⟨fun a => ?_, h.len, fun z hz => ?_, by rw [e]; exact hnd⟩
  · rw [e, h.mem]
    split
    · rfl
    · rename_i hx
      have h0 : m a = 0 := by
        rw [← h.mem]; unfold memOf
        rw [lk_none.2 hx]
      unfold zrM
      split
      · exact h0
      · rfl
  · obtain ⟨q, hq, rfl⟩ := List.mem_map.1 hz
    exact ⟨q.2.2, hq⟩
theorem zinv_end {P : Int} {m : Int → Int} {at_ n : Int} {M : List (Int × Nat × List Int)} (h : ZInv P m at_ n M []) (hb : ∀ a, 0 ≤ m a ∧ m a ≤ 255) : SpOk P (zrM m at_ n) M :=
  ⟨funext fun a => by rw [h.mem a]; simp, h.len, fun a => by unfold zrM; split; exact ⟨Int.le_refl 0, by decide⟩; exact hb a⟩
theorem tb_app (T1 T2 : List (Int × Nat)) : tb (T1 ++ T2) = tb T1 ++ tb T2 := by simp [tb]
theorem mpi_nd {κ α : Type} {ke : κ → Value} {ve : α → Value} {b r : Nat} {l todo : List (κ × α)} : ∀ H, MpI ke ve b r l todo H → (l.map (·.1)).Nodup := fun H h => h.1
theorem pblk_keys (M : List (Int × Nat × List Int)) : (pblk M).map (·.1) = M.map (·.1) := by unfold pblk; rw [List.map_map]; rfl
theorem key_or {p : Int} (h0 : 0 ≤ p) (h1 : p < 1048576) : bitop .or .u64 (p / 65536 * 65536) (p % 65536) = p := by
  obtain ⟨k, rfl⟩ : ∃ k : Nat, p = (k : Int) := ⟨p.toNat, by omega⟩
  have h2 := bitop_or_u64 (a := k / 65536 * 65536) (b := k % 65536) (by omega) (by omega)
  have e1 : ((k / 65536 * 65536 : Nat) : Int) = (k : Int) / 65536 * 65536 := by omega
  have e2 : ((k % 65536 : Nat) : Int) = (k : Int) % 65536 := by omega
  rw [e1, e2] at h2
  rw [h2, Nat.mul_comm, show (65536 : Nat) = 2 ^ 16 from rfl, ← Nat.two_pow_add_eq_or_of_lt (Nat.mod_lt _ (by decide)), Nat.div_add_mod]
set_option maxHeartbeats 8000000
attribute [local irreducible] X XE XO XD XDi XDa PV RV DV pt base Spec Sl Mp Keeps Pgs Spc MpI MpL
theorem number_spec (p : Int) (h0 : 0 ≤ p) (h1 : p < 1048576) : Spec Tryz.prog 123 [keyV p] [] (fun v L => v = .int .u64 p ∧ L = []) := by
  refine Spec.intro (IsEnt.out) Tryz.func123 rfl Tryz.ntmps123 (by simp) (fun w0 F => ?_)
  simp only [envOf, List.zipIdx, List.map, List.cons_append, List.nil_append, Nat.zero_add, Nat.reduceAdd]
  unfold keyV
  repeat (first | refine Zq ?_ | refine Zs ?_ | refine ZT ?_ | refine ZF ?_ | refine Zc ?_ | refine XO_gU (hk := ?_))
  refine XO_dv (dv_box (row := [.int .u16 (p / 65536), .int .u16 (p % 65536)])) (hk := ?_)
  rintro _ _ ⟨cb, rfl, rfl⟩
  repeat (first | refine Zq ?_ | refine Zs ?_ | refine ZT ?_ | refine ZF ?_ | refine Zc ?_ | refine XO_gU (hk := ?_))
  refine XO_pv (pv_shlN (r := p / 65536 * 65536) (hw := by show IntKind.u64.wrap (p / 65536 * 65536) = _; exact wrap_u64 (by omega) (by omega))) (hk := ?_)
  repeat (first | refine Zq ?_ | refine Zs ?_ | refine ZT ?_ | refine ZF ?_ | refine Zc ?_ | refine XO_gU (hk := ?_))
  refine XE_ret (.inl rfl) (tells_tmps rfl rfl) ⟨_, ⟨?_, rfl⟩, by ((try simp only [List.cons_append, List.nil_append]); repeat (first | exact ent_refl | refine ent_take (by repeat (first | exact Find.here | apply Find.there)) ?_ | refine ent_drop ?_))⟩
  exact congrArg (Value.int .u64) (key_or h0 h1)
def zeroV (sb : Nat) (P : Int) (m : Mm) (at_ n : Int) : Value → List HP → Prop :=
  if at_ + n ≤ P * 4096 then fun v L => v = .int .i64 0 ∧ L = [Spc sb P (zzM m at_ n)] else fun v L => v = .int .i64 3 ∧ L = [Spc sb P m]
theorem Zero_spec (sb : Nat) (P : Int) (m : Mm) (at_ n : Int) (hP0 : 0 ≤ P) (hP : P ≤ 1048576) (h0 : 0 ≤ at_) (h1 : at_ ≤ 18446744073709551615) (h2 : 0 ≤ n) (h3 : n ≤ 18446744073709551615) :
    Spec Tryz.prog 66 [.pointer (some ⟨sb, 0, none⟩), .int .u64 at_, .int .u64 n] [Spc sb P m] (zeroV sb P m at_ n) := by
  refine Spec.intro (IsEnt.out) Tryz.func66 rfl Tryz.ntmps66 (by simp) (fun w0 F => ?_)
  simp only [envOf, List.zipIdx, List.map, List.cons_append, List.nil_append, Nat.zero_add, Nat.reduceAdd]
  repeat (first | refine Zq ?_ | refine Zs ?_ | refine ZT ?_ | refine ZF ?_ | refine Zc ?_ | refine XO_gU (hk := ?_))
  refine XO_call (fits_spec sb P m at_ n n hP0 hP h0 h1 h2 (by omega)) (hk := ?_)
  rintro _ _ ⟨rfl, rfl⟩
  have hfi : fitsI P at_ n n = if at_ + n ≤ P * 4096 then 0 else 3 := by unfold fitsI; split <;> simp
  rw [hfi]
  unfold zeroV
  by_cases hf : at_ + n ≤ P * 4096
  case neg =>
    simp only [if_neg hf]
    repeat (first | refine Zq ?_ | refine Zs ?_ | refine ZT ?_ | refine ZF ?_ | refine Zc ?_ | refine XO_gU (hk := ?_))
    refine X_cond rfl (fun _ => ?_) (fun h => by cases h)
    repeat (first | refine Zq ?_ | refine Zs ?_ | refine ZT ?_ | refine ZF ?_ | refine Zc ?_ | refine XO_gU (hk := ?_))
    refine XE_ret (.inl rfl) (tells_tmps rfl rfl) ⟨_, ⟨rfl, rfl⟩, by ((try simp only [List.cons_append, List.nil_append]); repeat (first | exact ent_refl | refine ent_take (by repeat (first | exact Find.here | apply Find.there)) ?_ | refine ent_drop ?_))⟩
  simp only [if_pos hf]
  repeat (first | refine Zq ?_ | refine Zs ?_ | refine ZT ?_ | refine ZF ?_ | refine Zc ?_ | refine XO_gU (hk := ?_))
  refine X_cond rfl (fun h => by cases h) (fun _ => ?_)
  refine X_open .here Spc.open ?_
  rintro ⟨mb, M⟩ hM
  dsimp only [List.cons_append, List.nil_append] at hM ⊢
  repeat (first | refine Zq ?_ | refine Zs ?_ | refine ZT ?_ | refine ZF ?_ | refine Zc ?_ | refine XO_gU (hk := ?_))
  repeat (first | refine XD_pick (h := ?_) | refine Dq ?_ | refine Ds ?_ | refine XDi_gF (h := ?_) | refine XDi_gU (h := ?_) | refine X_draws (h := ?_))
  refine XD_one (h := ?_)
  refine XDa_dvA (dv_call (touched_spec at_ n h0 h2 (by omega))) (hk := ?_)
  (rintro _ _ ⟨_, ⟨rfl, rfl⟩, rfl⟩; refine ⟨by (repeat (first | exact keeps_nil | exact keeps_fnil | refine keeps_skip (h := ?_) | refine keeps_takeQ (h := ?_))), ?_⟩)
  repeat (first | refine XD_pick (h := ?_) | refine Dq ?_ | refine Ds ?_ | refine XDi_gF (h := ?_) | refine XDi_gU (h := ?_) | refine X_draws (h := ?_))
  refine XD_one (h := ?_)
  refine XDa_dvk0 dv_store (K := _) (hk := ?_)
  rintro _ _ rfl
  refine ⟨by (repeat (first | exact keeps_nil | exact keeps_fnil | refine keeps_skip (h := ?_) | refine keeps_takeQ (h := ?_))), ?_⟩
  (refine XD_end (h := ?_); repeat (first | refine Zq ?_ | refine Zs ?_ | refine ZT ?_ | refine ZF ?_ | refine Zc ?_ | refine XO_gU (hk := ?_)))
  refine XO_fact (A := Mp keyV pgV mb (pblk M)) (by (repeat (first | exact Find.here | apply Find.there))) Mp.nodup (fun hnd => ?_)
  rw [pblk_keys] at hnd
  refine XO_dv (dv_range (ke := keyV) (ve := pgV) (l := pblk M)) (hk := ?_)
  rintro _ _ ⟨r, rfl, rfl⟩
  repeat (first | refine Zq ?_ | refine Zs ?_ | refine ZT ?_ | refine ZF ?_ | refine Zc ?_ | refine XO_gU (hk := ?_))
  have hZ0 := zinv_start (at_ := at_) (n := n) hM hnd
  have htb : tb (M.map fun q => (q.1, q.2.1)) = pblk M := by simp [tb, pblk]
  refine X_loop (ι := List (Int × Nat × List Int) × List (Int × Nat)) (fun q => ZInv P m.f at_ n q.1 q.2) (fun q => [(0, .pointer (some ⟨sb, 0, none⟩)), (1, .int .u64 at_), (2, .int .u64 n), (35, .pointer (some ⟨r, 0, none⟩))])
    (fun q => MpI keyV pgV mb r (pblk q.1) (tb q.2) :: pt sb (.cells [.int .i64 P, .map (some mb), .int .i64 (IntKind.i64.wrap (m.t + touchI at_ n))].toArray 188 (0, 0)) :: Pgs q.1 :: F) (fun q => q.2.length) (M, M.map fun q => (q.1, q.2.1)) hZ0 ?_ (by dsimp only; rw [htb]; ((try simp only [List.cons_append, List.nil_append]); repeat (first | exact ent_refl | refine ent_take (by repeat (first | exact Find.here | apply Find.there)) ?_ | refine ent_drop ?_))) ?_
  · (repeat (first | exact Env.sub_nil _ | refine Env.sub_cons rfl ?_))
  rintro ⟨M', T⟩ hZ
  dsimp only at hZ ⊢
  repeat (first | refine Zq ?_ | refine Zs ?_ | refine ZT ?_ | refine ZF ?_ | refine Zc ?_ | refine XO_gU (hk := ?_))
  refine XO_fact (A := MpI keyV pgV mb r (pblk M') (tb T)) (by (repeat (first | exact Find.here | apply Find.there))) mpi_nd (fun hnd' => ?_)
  rw [pblk_keys] at hnd'
  refine XO_dv (dv_nextL (ke := keyV) (ve := pgV) (l := pblk M') (todo := tb T)) (hk := ?_)
  rintro _ _ (⟨rfl, hT0, rfl⟩ | ⟨t1, z, t2, ht, rfl, rfl⟩)
  · refine XO_conv (fun _ => SL.head MpI.done) ?_
    have hT : T = [] := by cases T with
      | nil => rfl
      | cons => simp [tb] at hT0
    subst hT
    repeat (first | refine Zq ?_ | refine Zs ?_ | refine ZT ?_ | refine ZF ?_ | refine Zc ?_ | refine XO_gU (hk := ?_))
    refine X_cond rfl (fun h => by cases h) (fun _ => ?_)
    repeat (first | refine Zq ?_ | refine Zs ?_ | refine ZT ?_ | refine ZF ?_ | refine Zc ?_ | refine XO_gU (hk := ?_))
    refine XE_fold (by repeat (first | exact FindAll.nil | exact Find.here | apply Find.there | apply FindAll.cons)) (Spc.fold (zinv_end hZ hM.byt)) ?_
    refine XE_ret (.inl rfl) (tells_tmps rfl rfl) ⟨_, ⟨rfl, rfl⟩, by ((try simp only [List.cons_append, List.nil_append]); repeat (first | exact ent_refl | refine ent_take (by repeat (first | exact Find.here | apply Find.there)) ?_ | refine ent_drop ?_))⟩
  · obtain ⟨T1, z', T2, hTz, ht1, hz, ht2⟩ : ∃ T1 z' T2, T = T1 ++ z' :: T2 ∧ t1 = tb T1 ∧ z = (z'.1, some z'.2) ∧ t2 = tb T2 := by
      unfold tb at ht
      obtain ⟨T1, T3, h1, h2, h3⟩ := List.map_eq_append_iff.1 ht
      obtain ⟨z', T2, h4, h5, h6⟩ := List.map_eq_cons_iff.1 h3
      exact ⟨T1, z', T2, by rw [h1, h4], h2.symm, h5.symm, h6.symm⟩
    subst hTz ht1 hz ht2
    obtain ⟨p, b⟩ := z'
    obtain ⟨ys, hys⟩ := hZ.sub (p, b) (by simp)
    obtain ⟨M1, M2, rfl⟩ := List.append_of_mem hys
    have hn : lk M1 p = none := by
      rw [List.map_append, List.map_cons, List.nodup_append] at hnd'
      exact lk_none.2 fun hp => hnd'.2.2 p hp p (by simp) rfl
    obtain ⟨hp0, hp1, hyl⟩ := hZ.len (p, b, ys) (by simp)
    have hZ' := zinv_step hZ hn
    simp only at hp0 hp1 hyl
    repeat (first | refine Zq ?_ | refine Zs ?_ | refine ZT ?_ | refine ZF ?_ | refine Zc ?_ | refine XO_gU (hk := ?_))
    refine X_cond rfl (fun _ => ?_) (fun h => by cases h)
    repeat (first | refine Zq ?_ | refine Zs ?_ | refine ZT ?_ | refine ZF ?_ | refine Zc ?_ | refine XO_gU (hk := ?_))
    refine XO_rv (rv_entry (ke := keyV) (ve := pgV)) (hk := ?_)
    refine XO_conv (L' := MpI keyV pgV mb r (pblk (M1 ++ (p, b, ys) :: M2)) (tb T1 ++ tb T2) :: _) (fun _ => SL.head MpL.on) ?_
    repeat (first | refine Zq ?_ | refine Zs ?_ | refine ZT ?_ | refine ZF ?_ | refine Zc ?_ | refine XO_gU (hk := ?_))
    refine XO_dv (dv_alloc (row := [.int .u16 0, .int .u16 0])) (hk := ?_)
    rintro _ _ ⟨cb, rfl, rfl⟩
    refine XO_dv0 (dv_storeW (vs := [.int .u16 (p / 65536), .int .u16 (p % 65536)])) (hk := ?_)
    rintro _ _ rfl
    repeat (first | refine Zq ?_ | refine Zs ?_ | refine ZT ?_ | refine ZF ?_ | refine Zc ?_ | refine XO_gU (hk := ?_))
    refine XO_call (number_spec p hp0 (by omega)) (hk := ?_)
    rintro _ _ ⟨rfl, rfl⟩
    repeat (first | refine Zq ?_ | refine Zs ?_ | refine ZT ?_ | refine ZF ?_ | refine Zc ?_ | refine XO_gU (hk := ?_))
    have hle : (T1 ++ T2).length < (T1 ++ (p, b) :: T2).length := by simp
    refine X_cond rfl (fun h4 => ?_) (fun h4 => ?_) <;> simp only [decide_eq_true_eq, decide_eq_false_iff_not] at h4
    · repeat (first | refine Zq ?_ | refine Zs ?_ | refine ZT ?_ | refine ZF ?_ | refine Zc ?_ | refine XO_gU (hk := ?_))
      have e : zpage at_ n p ys = ys := by unfold zpage; rw [if_pos h4]
      rw [e] at hZ'
      exact X_round (M1 ++ (p, b, ys) :: M2, T1 ++ T2) hZ' hle (by (repeat (first | exact Env.sub_nil _ | refine Env.sub_cons rfl ?_))) (by dsimp only; rw [tb_app]; ((try simp only [List.cons_append, List.nil_append]); repeat (first | exact ent_refl | refine ent_take (by repeat (first | exact Find.here | apply Find.there)) ?_ | refine ent_drop ?_)))
    · repeat (first | refine Zq ?_ | refine Zs ?_ | refine ZT ?_ | refine ZF ?_ | refine Zc ?_ | refine XO_gU (hk := ?_))
      refine X_cond rfl (fun h5 => ?_) (fun h5 => ?_)
      · simp only [beq_iff_eq] at h5
        have hn2 : lk (M1 ++ M2) p = none := by
          rw [List.map_append, List.map_cons, List.nodup_append, List.nodup_cons] at hnd'
          refine lk_none.2 fun hp => ?_
          rw [List.map_append, List.mem_append] at hp
          rcases hp with hp | hp
          · exact hnd'.2.2 p hp p (by simp) rfl
          · exact hnd'.2.1.1 hp
        have hZd := zinv_del hZ hn2 (by omega)
        have hnt : p ∉ (tb T1 ++ tb T2).map (·.1) := by
          have h6 := hZ.nd
          rw [List.map_append, List.map_cons, List.nodup_append, List.nodup_cons] at h6
          have e : ∀ T : List (Int × Nat), (tb T).map (·.1) = T.map (·.1) := fun T => by simp [tb]
          rw [List.map_append, e, e, List.mem_append]
          rintro (hp | hp)
          · exact h6.2.2 p hp p (by simp) rfl
          · exact h6.2.1.1 hp
        repeat (first | refine Zq ?_ | refine Zs ?_ | refine ZT ?_ | refine ZF ?_ | refine Zc ?_ | refine XO_gU (hk := ?_))
        repeat (first | refine XD_pick (h := ?_) | refine Dq ?_ | refine Ds ?_ | refine XDi_gF (h := ?_) | refine XDi_gU (h := ?_) | refine X_draws (h := ?_))
        refine XD_one (h := ?_)
        refine XDa_dvk0 (dv_deleteI (ke := keyV) (ve := pgV) p (ht := tk_page) (hnt := hnt)) (K := _) (hk := ?_)
        rintro _ _ rfl
        refine ⟨by (repeat (first | exact keeps_nil | exact keeps_fnil | refine keeps_skip (h := ?_) | refine keeps_takeQ (h := ?_))), ?_⟩
        (refine XD_end (h := ?_); repeat (first | refine Zq ?_ | refine Zs ?_ | refine ZT ?_ | refine ZF ?_ | refine Zc ?_ | refine XO_gU (hk := ?_)))
        have hdl : del (pblk (M1 ++ (p, b, ys) :: M2)) p = pblk (M1 ++ M2) := by
          unfold pblk
          rw [List.map_append, List.map_cons, List.map_append]
          exact del_split (by rw [lk_map (fun q : Nat × List Int => some q.1) p M1, hn]; rfl)
        rw [hdl]
        refine XE_open (A := Pgs (M1 ++ (p, b, ys) :: M2)) (by (repeat (first | exact Find.here | apply Find.there))) Pgs.out ?_
        rintro ⟨⟩ -
        dsimp only [List.cons_append, List.nil_append]
        exact X_round (M1 ++ M2, T1 ++ T2) hZd hle (by (repeat (first | exact Env.sub_nil _ | refine Env.sub_cons rfl ?_))) (by dsimp only; rw [tb_app]; ((try simp only [List.cons_append, List.nil_append]); repeat (first | exact ent_refl | refine ent_take (by repeat (first | exact Find.here | apply Find.there)) ?_ | refine ent_drop ?_)))
      refine X_open (A := Pgs (M1 ++ (p, b, ys) :: M2)) (by (repeat (first | exact Find.here | apply Find.there))) Pgs.out ?_
      rintro ⟨⟩ -
      dsimp only [List.cons_append, List.nil_append]
      repeat (first | refine Zq ?_ | refine Zs ?_ | refine ZT ?_ | refine ZF ?_ | refine Zc ?_ | refine XO_gU (hk := ?_))
      refine XO_pv pv_sliceArrLH (hk := ?_)
      obtain ⟨lo, hlo⟩ : ∃ lo, lo = (max at_ (p * 4096) - p * 4096).toNat := ⟨_, rfl⟩
      obtain ⟨w, hw⟩ : ∃ w, w = (min (at_ + n) (p * 4096 + 4096) - max at_ (p * 4096)).toNat := ⟨_, rfl⟩
      have hfit : lo + w ≤ ys.length := by omega
      refine XO_dv0 (dv_clearAt (kk := .u8) (b := b) (o := 0) (i := lo) (m := w) (c2 := 4096 - lo) (c := 4096) (xs := ys)
        (hx := by
          show some (Value.slice (subA (some ⟨b, 0, none⟩) (max at_ (p * 4096) - p * 4096).toNat 4096 1) ((min (at_ + n) (p * 4096 + 4096) - p * 4096).toNat - (max at_ (p * 4096) - p * 4096).toNat) (4096 - (max at_ (p * 4096) - p * 4096).toNat)) = _
          rw [subA_lt (by omega), ← hlo, show (min (at_ + n) (p * 4096 + 4096) - p * 4096).toNat - lo = w from by omega, Nat.mul_one]) (hm := hfit)) (hk := ?_)
      rintro _ _ rfl
      repeat (first | refine Zq ?_ | refine Zs ?_ | refine ZT ?_ | refine ZF ?_ | refine Zc ?_ | refine XO_gU (hk := ?_))
      have e : zpage at_ n p ys = ys.take lo ++ (List.replicate w 0 ++ ys.drop (lo + w)) := by
        unfold zpage cutIn
        rw [if_neg h4, List.length_replicate, ← hlo, ← hw]
      rw [e] at hZ'
      refine XE_fold (by repeat (first | exact FindAll.nil | exact Find.here | apply Find.there | apply FindAll.cons)) (Pgs.back (p := p) (b := b) (xs := ys.take lo ++ (List.replicate w 0 ++ ys.drop (lo + w))) (M1 := M1) (M2 := M2)) ?_
      rw [show pblk (M1 ++ (p, b, ys) :: M2) = pblk (M1 ++ (p, b, ys.take lo ++ (List.replicate w 0 ++ ys.drop (lo + w))) :: M2) from by simp [pblk]]
      exact X_round (M1 ++ (p, b, ys.take lo ++ (List.replicate w 0 ++ ys.drop (lo + w))) :: M2, T1 ++ T2) hZ' hle (by (repeat (first | exact Env.sub_nil _ | refine Env.sub_cons rfl ?_))) (by dsimp only; rw [tb_app]; ((try simp only [List.cons_append, List.nil_append]); repeat (first | exact ent_refl | refine ent_take (by repeat (first | exact Find.here | apply Find.there)) ?_ | refine ent_drop ?_)))
end Go.Proofs.YtamecmklcnohjaaGreat.Sep
namespace Go.Proofs.YtamecmklcnohjaaGreat.Sep
open Go.RowKit
set_option linter.unusedSimpArgs false
set_option linter.unusedVariables false
/-! headers that are taken away; pieces that are joined -/
def clearV (sb : Nat) (P : Int) (m : Mm) (page : Int) : Value → List HP → Prop :=
  if (readI P m.f page).2 = 0 then fun v L => v = .int .i64 0 ∧ L = [Spc sb P (zzM (hrM P m page) (page * 4096) 32)] else fun v L => v = .int .i64 (readI P m.f page).2 ∧ L = [Spc sb P (hrM P m page)]
theorem readI_in {P : Int} {m : Int → Int} {page : Int} (h : (readI P m page).2 = 0) : 0 ≤ page ∧ page < P := by
  by_cases hin : 0 ≤ page ∧ page < P
  · exact hin
  · unfold readI at h
    rw [if_neg hin] at h
    exact absurd h (by decide)
set_option maxHeartbeats 8000000
attribute [local irreducible] X XE XO XD XDi XDa PV RV DV pt base Spec Sl Mp Keeps Pgs Spc
theorem hclear_spec (sb : Nat) (P : Int) (m : Mm) (page : Int) (h0 : 0 ≤ P) (h1 : P ≤ 1048576) : Spec Tryz.prog 191 [.pointer (some ⟨sb, 0, none⟩), .int .i64 page] [Spc sb P m] (clearV sb P m page) := by
  refine Spec.intro (IsEnt.out) Tryz.func191 rfl Tryz.ntmps191 (by simp) (fun w0 F => ?_)
  simp only [envOf, List.zipIdx, List.map, List.cons_append, List.nil_append, Nat.zero_add, Nat.reduceAdd]
  repeat (first | refine Zq ?_ | refine Zs ?_ | refine ZT ?_ | refine ZF ?_ | refine Zc ?_ | refine XO_gU (hk := ?_))
  refine XO_call (hread_spec sb P m page h0 h1) (hk := ?_)
  rintro _ _ ⟨rfl, rfl⟩
  repeat (first | refine Zq ?_ | refine Zs ?_ | refine ZT ?_ | refine ZF ?_ | refine Zc ?_ | refine XO_gU (hk := ?_))
  refine XO_dv (dv_alloc (row := [.int .i64 0, .int .i64 0, .int .u64 0, .int .u64 0])) (hk := ?_)
  rintro _ _ ⟨hb, rfl, rfl⟩
  refine XO_dv0 (dv_storeW (vs := [.int .i64 (readI P m.f page).1.pages, .int .i64 (readI P m.f page).1.kind, .int .u64 (readI P m.f page).1.owner, .int .u64 (readI P m.f page).1.next])) (hk := ?_)
  rintro _ _ rfl
  repeat (first | refine Zq ?_ | refine Zs ?_ | refine ZT ?_ | refine ZF ?_ | refine Zc ?_ | refine XO_gU (hk := ?_))
  unfold clearV
  by_cases hz : (readI P m.f page).2 = 0
  · obtain ⟨p0, p1⟩ := readI_in hz
    rw [if_pos hz, hz]
    refine X_cond rfl (fun h => by cases h) (fun _ => ?_)
    repeat (first | refine Zq ?_ | refine Zs ?_ | refine ZT ?_ | refine ZF ?_ | refine Zc ?_ | refine XO_gU (hk := ?_))
    refine XO_call (hat_spec sb P (hrM P m page) page h0 h1) (hk := ?_)
    rintro _ _ ⟨rfl, rfl⟩
    rw [show hatI P page = page * 4096 from by unfold hatI; rw [if_pos ⟨p0, p1⟩]]
    repeat (first | refine Zq ?_ | refine Zs ?_ | refine ZT ?_ | refine ZF ?_ | refine Zc ?_ | refine XO_gU (hk := ?_))
    refine XO_call (Zero_spec sb P (hrM P m page) (page * 4096) 32 h0 h1 (by omega) (by omega) (by omega) (by omega)) (hk := ?_)
    unfold zeroV
    rw [if_pos (show page * 4096 + 32 ≤ P * 4096 by omega)]
    rintro _ _ ⟨rfl, rfl⟩
    repeat (first | refine Zq ?_ | refine Zs ?_ | refine ZT ?_ | refine ZF ?_ | refine Zc ?_ | refine XO_gU (hk := ?_))
    refine XE_ret (.inl rfl) (tells_tmps rfl rfl) ⟨_, ⟨rfl, rfl⟩, by ((try simp only [List.cons_append, List.nil_append]); repeat (first | exact ent_refl | refine ent_take (by repeat (first | exact Find.here | apply Find.there)) ?_ | refine ent_drop ?_))⟩
  · rw [if_neg hz]
    refine X_cond rfl (fun _ => ?_) (fun h => ?_)
    · repeat (first | refine Zq ?_ | refine Zs ?_ | refine ZT ?_ | refine ZF ?_ | refine Zc ?_ | refine XO_gU (hk := ?_))
      refine XE_ret (.inl rfl) (tells_tmps rfl rfl) ⟨_, ⟨rfl, rfl⟩, by ((try simp only [List.cons_append, List.nil_append]); repeat (first | exact ent_refl | refine ent_take (by repeat (first | exact Find.here | apply Find.there)) ?_ | refine ent_drop ?_))⟩
    · exact absurd (by simpa using h) hz
/-- A slice of slices of bytes. -/
def eSl : E (Option Addr × Nat × Nat) := ⟨1, false, fun x => [.slice x.1 x.2.1 x.2.2], fun _ => rfl, fun _ _ h => by simp at h; subst h; rfl, by decide, fun _ => rfl⟩
end Go.Proofs.YtamecmklcnohjaaGreat.Sep
namespace Go.Proofs.YtamecmklcnohjaaGreat.Sep
open Go.RowKit
set_option linter.unusedSimpArgs false
set_option linter.unusedVariables false
/-! a store of chunks: its pages, and what is kept; its space stands beside it -/
def Ck (s sb : Nat) (C : Co) : HP := fun H => ∃ x : Nat × Nat, SL [pt s (.cells [.pointer (some ⟨x.1, 0, none⟩), .pointer (some ⟨sb, 0, none⟩), .pointer (some ⟨x.2, 0, none⟩)].toArray 108 (0, 0)), Pg x.1 C.P C.fr C.t, Kc x.2 C.ks] H
theorem Ck.open {s sb : Nat} {C : Co} : ∀ H, Ck s sb C H → ∃ x : Nat × Nat, True ∧ SL [pt s (.cells [.pointer (some ⟨x.1, 0, none⟩), .pointer (some ⟨sb, 0, none⟩), .pointer (some ⟨x.2, 0, none⟩)].toArray 108 (0, 0)), Pg x.1 C.P C.fr C.t, Kc x.2 C.ks] H := fun H ⟨x, h⟩ => ⟨x, trivial, h⟩
theorem Ck.fold {s sb pb kb : Nat} {C : Co} : ∀ H, SL [pt s (.cells [.pointer (some ⟨pb, 0, none⟩), .pointer (some ⟨sb, 0, none⟩), .pointer (some ⟨kb, 0, none⟩)].toArray 108 (0, 0)), Pg pb C.P C.fr C.t, Kc kb C.ks] H → Ck s sb C H := fun H h => ⟨(pb, kb), h⟩
set_option maxHeartbeats 8000000
attribute [local irreducible] X XE XO XD XDi XDa PV RV DV pt base Spec Sl Mp Keeps Pg Kc Pgs Spc
theorem ctrim_spec (l sb : Nat) (C : Co) (h : CoOk C) : Spec Tryz.prog 23 [.pointer (some ⟨l, 0, none⟩)] [Ck l sb C] (fun v L => v = .int .i64 (trimN C) ∧ L = [Ck l sb (trimC C)]) := by
  refine Spec.intro (IsEnt.out) Tryz.func23 rfl Tryz.ntmps23 (by simp) (fun w0 F => ?_)
  simp only [envOf, List.zipIdx, List.map, List.cons_append, List.nil_append, Nat.zero_add, Nat.reduceAdd]
  repeat (first | refine Zq ?_ | refine Zs ?_ | refine ZT ?_ | refine ZF ?_ | refine Zc ?_ | refine XO_gU (hk := ?_))
  refine X_cond rfl (fun h => by cases h) (fun _ => ?_)
  refine X_open .here Ck.open ?_
  rintro ⟨pb, kb⟩ -
  dsimp only [List.cons_append, List.nil_append]
  have hkl := kall_le (fun k hk => (h.kept k hk).1) 7 (Nat.le_refl _)
  repeat (first | refine Zq ?_ | refine Zs ?_ | refine ZT ?_ | refine ZF ?_ | refine Zc ?_ | refine XO_gU (hk := ?_))
  refine XO_call (call_spec kb C.ks) (hk := ?_)
  rintro _ _ ⟨a, c, rfl, rfl⟩
  repeat (first | refine Zq ?_ | refine Zs ?_ | refine ZT ?_ | refine ZF ?_ | refine Zc ?_ | refine XO_gU (hk := ?_))
  refine X_loop (ι := Nat) (fun q => q ≤ (kall C.ks 7).length) (fun q => [(0, .pointer (some ⟨l, 0, none⟩)), (12, .slice a (kall C.ks 7).length c), (13, .int .i64 ((kall C.ks 7).length : Int)), (14, .int .i64 (q : Int)), (3, .int .i64 (totI ((kall C.ks 7).take q)))])
    (fun q => pt l (.cells [.pointer (some ⟨pb, 0, none⟩), .pointer (some ⟨sb, 0, none⟩), .pointer (some ⟨kb, 0, none⟩)].toArray 108 (0, 0)) :: Pg pb (((kall C.ks 7).take q).foldl giveC C).P (((kall C.ks 7).take q).foldl giveC C).fr (((kall C.ks 7).take q).foldl giveC C).t :: Kc kb C.ks :: Sl eRun a c (kall C.ks 7) :: F) (fun q => (kall C.ks 7).length - q) 0 (Nat.zero_le _) ?_ (by ((try simp only [List.cons_append, List.nil_append]); repeat (first | exact ent_refl | refine ent_take (by repeat (first | exact Find.here | apply Find.there)) ?_ | refine ent_drop ?_))) ?_
  · (repeat (first | exact Env.sub_nil _ | refine Env.sub_cons rfl ?_))
  rintro k hk
  dsimp only at hk ⊢
  repeat (first | refine Zq ?_ | refine Zs ?_ | refine ZT ?_ | refine ZF ?_ | refine Zc ?_ | refine XO_gU (hk := ?_))
  refine X_cond rfl (fun hc => ?_) (fun hc => ?_) <;> simp only [decide_eq_true_eq, decide_eq_false_iff_not] at hc
  · have hkl2 : k < (kall C.ks 7).length := by omega
    have hD := fold_ok ((kall C.ks 7).take k) h
    have hr := kall_bd h (List.getElem_mem hkl2)
    have htk : (kall C.ks 7).take (k + 1) = (kall C.ks 7).take k ++ [(kall C.ks 7)[k]] := List.take_succ_eq_append_getElem hkl2
    have hs : totI ((kall C.ks 7).take (k + 1)) = totI ((kall C.ks 7).take k) + (kall C.ks 7)[k].2 := by
      rw [htk, tot_append]; simp [totI]
    have hb1 := tot_le (l := (kall C.ks 7).take k) (fun r hr => (kall_bd h (List.mem_of_mem_take hr)).2.2)
    have hb2 : ((kall C.ks 7).take k).length ≤ 28 := by simp; omega
    have hfo : ((kall C.ks 7).take (k + 1)).foldl giveC C = giveC (((kall C.ks 7).take k).foldl giveC C) (kall C.ks 7)[k] := by rw [htk, List.foldl_append]; rfl
    refine X_slopen (E' := eRun) (a := a) (c := c) (xs := kall C.ks 7) (by (repeat (first | exact Find.here | apply Find.there))) (by omega) ?_
    rintro b o rfl
    repeat (first | refine Zq ?_ | refine Zs ?_ | refine ZT ?_ | refine ZF ?_ | refine Zc ?_ | refine XO_gU (hk := ?_))
    refine XO_rv (rv_elG (E' := eRun) (i := k) (x' := (kall C.ks 7)[k]) (hget := by simp [hkl2])) (hk := ?_)
    repeat (first | refine Zq ?_ | refine Zs ?_ | refine ZT ?_ | refine ZF ?_ | refine Zc ?_ | refine XO_gU (hk := ?_))
    (refine XO_dv dv_alloc (hk := ?_); rintro _ _ ⟨cb, rfl, rfl⟩; (repeat (first | refine Zq ?_ | refine Zs ?_ | refine ZT ?_ | refine ZF ?_ | refine Zc ?_ | refine XO_gU (hk := ?_))); refine XO_dv0 dv_storeW (hk := ?_); rintro _ _ rfl; (repeat (first | refine Zq ?_ | refine Zs ?_ | refine ZT ?_ | refine ZF ?_ | refine Zc ?_ | refine XO_gU (hk := ?_))))
    repeat (first | refine XD_pick (h := ?_) | refine Dq ?_ | refine Ds ?_ | refine XDi_gF (h := ?_) | refine XDi_gU (h := ?_) | refine X_draws (h := ?_))
    refine XD_one (h := ?_)
    refine XDa_dvA (dv_call (pgive_spec pb _ _ (kall C.ks 7)[k].1 (kall C.ks 7)[k].2 _ (rf_len' (by have := hD.p1; omega) hD.p2 hD.right) (rf_bd hD.p2 hD.right) (by have := hD.p1; omega) hD.p2 (by omega) (by omega) (by omega) (by omega))) (hk := ?_)
    rintro v _ ⟨L', hpost, rfl⟩
    obtain ⟨rfl, rfl⟩ := give_stepT hpost
    refine ⟨by (repeat (first | exact keeps_nil | exact keeps_fnil | refine keeps_skip (h := ?_) | refine keeps_takeQ (h := ?_))), ?_⟩
    (refine XD_end (h := ?_); repeat (first | refine Zq ?_ | refine Zs ?_ | refine ZT ?_ | refine ZF ?_ | refine Zc ?_ | refine XO_gU (hk := ?_)))
    refine X_round (k + 1) (by show k + 1 ≤ _; omega) (by show (kall C.ks 7).length - (k + 1) < (kall C.ks 7).length - k; omega) (by rw [hs]; (repeat (first | exact Env.sub_nil _ | refine Env.sub_cons rfl ?_))) ?_
    rw [hfo]
    ((try simp only [List.cons_append, List.nil_append]); repeat (first | exact ent_refl | refine ent_take (by repeat (first | exact Find.here | apply Find.there)) ?_ | refine ent_drop ?_))
  · obtain rfl : k = (kall C.ks 7).length := by omega
    rw [List.take_length]
    repeat (first | refine Zq ?_ | refine Zs ?_ | refine ZT ?_ | refine ZF ?_ | refine Zc ?_ | refine XO_gU (hk := ?_))
    refine XO_call (cclear_spec kb C.ks) (hk := ?_)
    rintro _ _ ⟨rfl, rfl⟩
    repeat (first | refine Zq ?_ | refine Zs ?_ | refine ZT ?_ | refine ZF ?_ | refine Zc ?_ | refine XO_gU (hk := ?_))
    refine XE_ret (.inl rfl) (tells_tmps rfl rfl) ⟨_, ⟨rfl, rfl⟩, ?_⟩
    (try simp only [List.cons_append, List.nil_append])
    rw [(fold_P (kall C.ks 7) C).1]
    refine ent_fold (by repeat (first | exact FindAll.nil | exact Find.here | apply Find.there | apply FindAll.cons)) (Ck.fold (C := trimC C)) ?_
    ((try simp only [List.cons_append, List.nil_append]); repeat (first | exact ent_refl | refine ent_take (by repeat (first | exact Find.here | apply Find.there)) ?_ | refine ent_drop ?_))
theorem knew_spec (p : Int) : Spec Tryz.prog 15 [.int .i64 p] [] (fun v L => ∃ s sb, v = .pointer (some ⟨s, 0, none⟩) ∧ L = [Ck s sb ⟨min (max p 1) 1048576, [(0, min (max p 1) 1048576)], fun _ => [], 0⟩, Spc sb (min (max p 1) 1048576) ⟨fun _ => 0, 0⟩]) := by
  refine Spec.intro (IsEnt.out) Tryz.func15 rfl Tryz.ntmps15 (by simp) (fun w0 F => ?_)
  simp only [envOf, List.zipIdx, List.map, List.cons_append, List.nil_append, Nat.zero_add, Nat.reduceAdd]
  repeat (first | refine Zq ?_ | refine Zs ?_ | refine ZT ?_ | refine ZF ?_ | refine Zc ?_ | refine XO_gU (hk := ?_))
  refine XO_call (pnew_spec p) (hk := ?_)
  rintro _ _ ⟨pb, rfl, rfl⟩
  repeat (first | refine Zq ?_ | refine Zs ?_ | refine ZT ?_ | refine ZF ?_ | refine Zc ?_ | refine XO_gU (hk := ?_))
  refine XO_call (snew_spec p) (hk := ?_)
  rintro _ _ ⟨sb, rfl, rfl⟩
  repeat (first | refine Zq ?_ | refine Zs ?_ | refine ZT ?_ | refine ZF ?_ | refine Zc ?_ | refine XO_gU (hk := ?_))
  refine XO_call cnew_spec (hk := ?_)
  rintro _ _ ⟨kb, rfl, rfl⟩
  repeat (first | refine Zq ?_ | refine Zs ?_ | refine ZT ?_ | refine ZF ?_ | refine Zc ?_ | refine XO_gU (hk := ?_))
  refine XO_dv dv_box (hk := ?_)
  rintro _ _ ⟨b, rfl, rfl⟩
  repeat (first | refine Zq ?_ | refine Zs ?_ | refine ZT ?_ | refine ZF ?_ | refine Zc ?_ | refine XO_gU (hk := ?_))
  refine XE_ret (.inl rfl) (tells_tmps rfl rfl) ⟨_, ⟨b, sb, rfl, rfl⟩, ?_⟩
  (try simp only [List.cons_append, List.nil_append])
  refine ent_fold (by repeat (first | exact FindAll.nil | exact Find.here | apply Find.there | apply FindAll.cons)) (Ck.fold (C := ⟨min (max p 1) 1048576, [(0, min (max p 1) 1048576)], fun _ => [], 0⟩)) ?_
  ((try simp only [List.cons_append, List.nil_append]); repeat (first | exact ent_refl | refine ent_take (by repeat (first | exact Find.here | apply Find.there)) ?_ | refine ent_drop ?_))
theorem kspace_spec (s sb : Nat) (C : Co) : Spec Tryz.prog 46 [.pointer (some ⟨s, 0, none⟩)] [Ck s sb C] (fun v L => v = .pointer (some ⟨sb, 0, none⟩) ∧ L = [Ck s sb C]) := by
  refine Spec.intro (IsEnt.out) Tryz.func46 rfl Tryz.ntmps46 (by simp) (fun w0 F => ?_)
  simp only [envOf, List.zipIdx, List.map, List.cons_append, List.nil_append, Nat.zero_add, Nat.reduceAdd]
  repeat (first | refine Zq ?_ | refine Zs ?_ | refine ZT ?_ | refine ZF ?_ | refine Zc ?_ | refine XO_gU (hk := ?_))
  refine X_cond rfl (fun h => by cases h) (fun _ => ?_)
  refine X_open .here Ck.open ?_
  rintro ⟨pb, kb⟩ -
  dsimp only [List.cons_append, List.nil_append]
  repeat (first | refine Zq ?_ | refine Zs ?_ | refine ZT ?_ | refine ZF ?_ | refine Zc ?_ | refine XO_gU (hk := ?_))
  refine XE_fold (by repeat (first | exact FindAll.nil | exact Find.here | apply Find.there | apply FindAll.cons)) (Ck.fold (C := C)) ?_
  refine XE_ret (.inl rfl) (tells_tmps rfl rfl) ⟨_, ⟨rfl, rfl⟩, by ((try simp only [List.cons_append, List.nil_append]); repeat (first | exact ent_refl | refine ent_take (by repeat (first | exact Find.here | apply Find.there)) ?_ | refine ent_drop ?_))⟩
theorem kruns_spec (s sb : Nat) (C : Co) (hl : C.fr.length ≤ 1048576) : Spec Tryz.prog 52 [.pointer (some ⟨s, 0, none⟩)] [Ck s sb C] (fun v L => ∃ a c, v = .slice a C.fr.length c ∧ L = [Sl eRun a c C.fr, Ck s sb C]) := by
  refine Spec.intro (IsEnt.out) Tryz.func52 rfl Tryz.ntmps52 (by simp) (fun w0 F => ?_)
  simp only [envOf, List.zipIdx, List.map, List.cons_append, List.nil_append, Nat.zero_add, Nat.reduceAdd]
  repeat (first | refine Zq ?_ | refine Zs ?_ | refine ZT ?_ | refine ZF ?_ | refine Zc ?_ | refine XO_gU (hk := ?_))
  refine X_cond rfl (fun h => by cases h) (fun _ => ?_)
  refine X_open .here Ck.open ?_
  rintro ⟨pb, kb⟩ -
  dsimp only [List.cons_append, List.nil_append]
  repeat (first | refine Zq ?_ | refine Zs ?_ | refine ZT ?_ | refine ZF ?_ | refine Zc ?_ | refine XO_gU (hk := ?_))
  refine XO_call (pruns_spec pb C.P C.t C.fr hl) (hk := ?_)
  rintro _ _ ⟨a, c, rfl, rfl⟩
  repeat (first | refine Zq ?_ | refine Zs ?_ | refine ZT ?_ | refine ZF ?_ | refine Zc ?_ | refine XO_gU (hk := ?_))
  refine XE_fold (by repeat (first | exact FindAll.nil | exact Find.here | apply Find.there | apply FindAll.cons)) (Ck.fold (C := C)) ?_
  refine XE_ret (.inl rfl) (tells_tmps rfl rfl) ⟨_, ⟨a, c, rfl, rfl⟩, ?_⟩
  ((try simp only [List.cons_append, List.nil_append]); repeat (first | exact ent_refl | refine ent_take (by repeat (first | exact Find.here | apply Find.there)) ?_ | refine ent_drop ?_))
theorem kcached_spec (s sb : Nat) (C : Co) (h : CoOk C) : Spec Tryz.prog 102 [.pointer (some ⟨s, 0, none⟩)] [Ck s sb C] (fun v L => ∃ a c, v = .slice a (kall C.ks 7).length c ∧ L = [Sl eRun a c (kall C.ks 7), Ck s sb C]) := by
  refine Spec.intro (IsEnt.out) Tryz.func102 rfl Tryz.ntmps102 (by simp) (fun w0 F => ?_)
  simp only [envOf, List.zipIdx, List.map, List.cons_append, List.nil_append, Nat.zero_add, Nat.reduceAdd]
  repeat (first | refine Zq ?_ | refine Zs ?_ | refine ZT ?_ | refine ZF ?_ | refine Zc ?_ | refine XO_gU (hk := ?_))
  refine X_cond rfl (fun h => by cases h) (fun _ => ?_)
  refine X_open .here Ck.open ?_
  rintro ⟨pb, kb⟩ -
  dsimp only [List.cons_append, List.nil_append]
  repeat (first | refine Zq ?_ | refine Zs ?_ | refine ZT ?_ | refine ZF ?_ | refine Zc ?_ | refine XO_gU (hk := ?_))
  refine XO_call (call_spec kb C.ks) (hk := ?_)
  rintro _ _ ⟨a, c, rfl, rfl⟩
  repeat (first | refine Zq ?_ | refine Zs ?_ | refine ZT ?_ | refine ZF ?_ | refine Zc ?_ | refine XO_gU (hk := ?_))
  refine XE_fold (by repeat (first | exact FindAll.nil | exact Find.here | apply Find.there | apply FindAll.cons)) (Ck.fold (C := C)) ?_
  refine XE_ret (.inl rfl) (tells_tmps rfl rfl) ⟨_, ⟨a, c, rfl, rfl⟩, ?_⟩
  ((try simp only [List.cons_append, List.nil_append]); repeat (first | exact ent_refl | refine ent_take (by repeat (first | exact Find.here | apply Find.there)) ?_ | refine ent_drop ?_))
end Go.Proofs.YtamecmklcnohjaaGreat.Sep
namespace Go.Proofs.YtamecmklcnohjaaGreat.Sep
open Go.RowKit
set_option linter.unusedSimpArgs false
set_option linter.unusedVariables false
/-! chunks of a space, plain: each page is free, kept or in one chunk that was got; each of these has its header -/
def rnd (p : Int) : Int := max p (cpages (cclass p))
theorem rnd_ok {p : Int} (h1 : 1 ≤ p) (h2 : p ≤ 1048576) : p ≤ rnd p ∧ rnd p ≤ 1048576 ∧ (0 ≤ cclass (rnd p) → cpages (cclass (rnd p)) = rnd p) ∧ cclass (rnd p) = cclass p ∧ (64 < p → rnd p = p) ∧ (p ≤ 64 → rnd p ≤ 64 ∧ rnd p ≤ 2 * p - 1) := by
  have hc : (p ≤ 1 ∧ cclass p = 0) ∨ (p ≤ 2 ∧ 2 ≤ p ∧ cclass p = 1) ∨ (p ≤ 4 ∧ 3 ≤ p ∧ cclass p = 2) ∨ (p ≤ 8 ∧ 5 ≤ p ∧ cclass p = 3) ∨ (p ≤ 16 ∧ 9 ≤ p ∧ cclass p = 4) ∨ (p ≤ 32 ∧ 17 ≤ p ∧ cclass p = 5) ∨ (p ≤ 64 ∧ 33 ≤ p ∧ cclass p = 6) ∨ (65 ≤ p ∧ cclass p = -1) := by
    unfold cclass
    repeat' split
    all_goals omega
  have e : ∀ k n : Int, cclass p = k → cpages k = n → p ≤ n → rnd p = n := fun k n a b c => by unfold rnd; rw [a, b]; omega
  rcases hc with ⟨a, b⟩ | ⟨a, a', b⟩ | ⟨a, a', b⟩ | ⟨a, a', b⟩ | ⟨a, a', b⟩ | ⟨a, a', b⟩ | ⟨a, a', b⟩ | ⟨a, b⟩
  · rw [e 0 1 b (by decide) a, b]; refine ⟨a, by decide, by decide, by decide, by omega, by omega⟩
  · rw [e 1 2 b (by decide) a, b]; refine ⟨a, by decide, by decide, by decide, by omega, by omega⟩
  · rw [e 2 4 b (by decide) a, b]; refine ⟨a, by decide, by decide, by decide, by omega, by omega⟩
  · rw [e 3 8 b (by decide) a, b]; refine ⟨a, by decide, by decide, by decide, by omega, by omega⟩
  · rw [e 4 16 b (by decide) a, b]; refine ⟨a, by decide, by decide, by decide, by omega, by omega⟩
  · rw [e 5 32 b (by decide) a, b]; refine ⟨a, by decide, by decide, by decide, by omega, by omega⟩
  · rw [e 6 64 b (by decide) a, b]; refine ⟨a, by decide, by decide, by decide, by omega, by omega⟩
  · have : rnd p = p := by unfold rnd; rw [b, show cpages (-1) = 0 from by decide]; omega
    rw [this, b]
    refine ⟨by omega, h2, fun h => absurd h (by decide), rfl, fun _ => rfl, by omega⟩
def gr (got : List (Int × Hd)) : List (Int × Int) := got.map fun q => (q.1, q.2.pages)
theorem gr_app (a b : List (Int × Hd)) : gr (a ++ b) = gr a ++ gr b := by simp [gr]
def HdGood (h : Hd) : Prop := HdOk h ∧ 0 ≤ h.owner ∧ h.owner < 18446744073709551616 ∧ 0 ≤ h.next ∧ h.next < 18446744073709551616
structure KInv (C : Co) (m : Int → Int) (got : List (Int × Hd)) : Prop where
  ci : CInv C
  run : ∀ q ∈ got, RunOk C.P (q.1, q.2.pages)
  part : ∀ x, cC x C + cnt x (gr got) = if 0 ≤ x ∧ x < C.P then 1 else 0
  tot : tC C + totI (gr got) = C.P
  hdr : ∀ q ∈ got, rdM m (q.1 * 4096) 32 = hdB q.2 ∧ HdGood q.2
theorem part_le1 {x P : Int} : (if 0 ≤ x ∧ x < P then (1 : Int) else 0) ≤ 1 := by split <;> omega
theorem KInv.le {C : Co} {m : Int → Int} {got : List (Int × Hd)} (h : KInv C m got) (x : Int) : cC x C ≤ 1 := by
  have h1 := h.part x
  have h2 := cnt_nn x (gr got)
  have h3 := part_le1 (x := x) (P := C.P)
  omega
theorem knew (p : Int) (m : Int → Int) : KInv ⟨min (max p 1) 1048576, [(0, min (max p 1) 1048576)], fun _ => [], 0⟩ m [] := by
  have h1 : 1 ≤ min (max p 1) 1048576 := by omega
  have h2 : min (max p 1) 1048576 ≤ 1048576 := by omega
  generalize min (max p 1) 1048576 = P at h1 h2
  refine ⟨⟨⟨h1, h2, ⟨by show (0 : Int) ≤ 0; omega, h1, by show 0 + P ≤ P; omega, trivial⟩, fun k hk => ⟨Nat.zero_le _, fun p hp => (by cases hp)⟩⟩, fun k hk p hp => (by cases hp)⟩, fun q hq => (by cases hq), fun x => ?_, ?_, fun q hq => (by cases hq)⟩
  · show cnt x [(0, P)] + cnt x (kall (fun _ => []) 7) + cnt x [] = _
    rw [kall_nil]
    simp only [cnt, ind]
    by_cases hx : 0 ≤ x ∧ x < P
    · rw [if_pos hx, if_pos (by omega)]; omega
    · rw [if_neg hx, if_neg (by omega)]; omega
  · show totI [(0, P)] + totI (kall (fun _ => []) 7) + totI [] = P
    rw [kall_nil]; simp [totI]
theorem ind_self {p n : Int} (h : 1 ≤ n) : ind p (p, n) = 1 := by unfold ind; rw [if_pos]; simp; omega
/-- A chunk is got. -/
theorem kget {C : Co} {m : Int → Int} {got : List (Int × Hd)} {hd : Hd} (h : KInv C m got) (hh : HdGood hd) (hc : 0 ≤ cclass hd.pages → cpages (cclass hd.pages) = hd.pages) (h0 : (getC C hd.pages).2.2 = 0) :
    KInv (getC C hd.pages).1 (wrM m ((getC C hd.pages).2.1 * 4096) (hdB hd)) (got ++ [((getC C hd.pages).2.1, hd)]) ∧ (getC C hd.pages).1.P = C.P ∧ RunOk C.P ((getC C hd.pages).2.1, hd.pages) := by
  obtain ⟨g1, g2, g3, _⟩ := get_inv h.ci h.le hh.1.1 hc
  obtain ⟨g4, g5, g6⟩ := g3 h0
  generalize getC C hd.pages = G at *
  obtain ⟨C', p, e⟩ := G
  simp only at *
  refine ⟨⟨g1, fun q hq => ?_, fun x => ?_, ?_, fun q hq => ?_⟩, g2, g4⟩
  · rw [g2]
    rcases List.mem_append.1 hq with hq | hq
    · exact h.run q hq
    · simp at hq; subst hq; exact g4
  · rw [g2, ← h.part x, g5 x, gr_app, cnt_append]
    show _ + (_ + (ind x (p, hd.pages) + 0)) = _
    omega
  · rw [g2, gr_app, tot_append]
    have := h.tot
    have e : totI (gr [(p, hd)]) = hd.pages := by simp [gr, totI]
    rw [e]
    omega
  · rcases List.mem_append.1 hq with hq | hq
    · refine ⟨?_, (h.hdr q hq).2⟩
      have hne : q.1 ≠ p := by
        intro he
        have h1 := h.part p
        have h2 := g5 p
        have h3 := ind_self (p := p) hh.1.1
        have h4 := cnt_mem (x := p) (r := (q.1, q.2.pages)) (l := gr got) (List.mem_map.2 ⟨q, hq, rfl⟩)
        rw [he, ind_self (h.hdr q hq).2.1.1] at h4
        have h5 := cC_nn p C'
        have h6 := part_le1 (x := p) (P := C.P)
        omega
      rw [rd_wr_ne (by rw [hdB_len]; omega)]
      exact (h.hdr q hq).1
    · simp at hq; subst hq
      refine ⟨?_, hh⟩
      have := rd_wr m (p * 4096) (hdB hd)
      rw [hdB_len] at this
      exact this
/-- There was no room: only what is kept may have gone. -/
theorem knot {C : Co} {m : Int → Int} {got : List (Int × Hd)} {n : Int} (h : KInv C m got) (hn : 1 ≤ n) (hc : 0 ≤ cclass n → cpages (cclass n) = n) (h0 : (getC C n).2.2 ≠ 0) : KInv (getC C n).1 m got ∧ (getC C n).1.P = C.P := by
  obtain ⟨g1, g2, _, g3⟩ := get_inv h.ci h.le hn hc
  obtain ⟨g5, g6⟩ := g3 h0
  refine ⟨⟨g1, fun q hq => by rw [g2]; exact h.run q hq, fun x => by rw [g2, g5 x]; exact h.part x, by rw [g2, g6]; exact h.tot, h.hdr⟩, g2⟩
/-- A chunk is put. -/
theorem kput {C : Co} {m : Int → Int} {l1 l2 : List (Int × Hd)} {p : Int} {hd : Hd} (h : KInv C m (l1 ++ (p, hd) :: l2)) : KInv (putC C (p, hd.pages)) (zrM m (p * 4096) 32) (l1 ++ l2) ∧ (putC C (p, hd.pages)).P = C.P := by
  have hr : RunOk C.P (p, hd.pages) := h.run (p, hd) (by simp)
  have hcn : ∀ x, cC x C + (cnt x (gr l1) + (ind x (p, hd.pages) + cnt x (gr l2))) = if 0 ≤ x ∧ x < C.P then 1 else 0 := fun x => by
    have := h.part x
    rw [gr_app, cnt_append] at this
    exact this
  obtain ⟨g1, g2, g3, g4⟩ := put_inv h.ci hr (fun x => by
    have := hcn x; have := cnt_nn x (gr l1); have := cnt_nn x (gr l2); have := part_le1 (x := x) (P := C.P); omega)
  refine ⟨⟨g1, fun q hq => ?_, fun x => ?_, ?_, fun q hq => ?_⟩, g2⟩
  · rw [g2]; exact h.run q (by rcases List.mem_append.1 hq with hq | hq <;> simp [hq])
  · rw [g2, g3 x, ← hcn x, gr_app, cnt_append]; omega
  · have := h.tot
    rw [gr_app, tot_append] at this
    rw [g2, g4, gr_app, tot_append]
    have e : totI (gr ((p, hd) :: l2)) = hd.pages + totI (gr l2) := tot_cons _ _
    simp only at *
    omega
  · have hq' : q ∈ l1 ++ (p, hd) :: l2 := by rcases List.mem_append.1 hq with hq | hq <;> simp [hq]
    refine ⟨?_, (h.hdr q hq').2⟩
    have hne : q.1 ≠ p := by
      intro he
      have h1 := hcn p
      have h3 := ind_self (p := p) (h.hdr (p, hd) (by simp)).2.1.1
      have h4 : ind p (q.1, q.2.pages) ≤ cnt p (gr l1) + cnt p (gr l2) := by
        have := cnt_mem (x := p) (r := (q.1, q.2.pages)) (l := gr (l1 ++ l2)) (List.mem_map.2 ⟨q, hq, rfl⟩)
        rwa [gr_app, cnt_append] at this
      rw [he, ind_self (h.hdr q hq').2.1.1] at h4
      have h5 := cC_nn p C
      have h6 := part_le1 (x := p) (P := C.P)
      simp only at h3
      omega
    rw [rd_zr_ne (by omega)]
    exact (h.hdr q hq').1
theorem ktrim {C : Co} {m : Int → Int} {got : List (Int × Hd)} (h : KInv C m got) : KInv (trimC C) m got := by
  obtain ⟨g1, g2, g3⟩ := trim_inv h.ci h.le
  exact ⟨g1, h.run, fun x => by rw [g2 x]; exact h.part x, by rw [g3]; exact h.tot, h.hdr⟩
theorem kdone {C : Co} {m : Int → Int} (h : KInv C m []) : (trimC C).fr = [(0, C.P)] := by
  have ht := ktrim h
  refine free_all h.ci.ok.p1 ht.ci.ok.right fun x h0 h1 => ?_
  have := ht.part x
  have h2 : cC x (trimC C) = cnt x (trimC C).fr := by
    show cnt x (trimC C).fr + cnt x (kall (fun _ => []) 7) = _
    rw [kall_nil]; simp [cnt]
  rw [h2, if_pos ⟨h0, h1⟩] at this
  simp only [gr, List.map_nil, cnt] at this
  omega
end Go.Proofs.YtamecmklcnohjaaGreat.Sep
namespace Go.Proofs.YtamecmklcnohjaaGreat.Sep
open Go.RowKit
set_option linter.unusedSimpArgs false
set_option linter.unusedVariables false
/-! chunks: their pages -/
set_option maxHeartbeats 8000000
attribute [local irreducible] X XE XO XD XDi XDa PV RV DV pt base Spec Sl Mp Keeps Pg Kc Pgs Spc Ck
theorem kfree_spec (s sb : Nat) (C : Co) (h : CoOk C) : Spec Tryz.prog 28 [.pointer (some ⟨s, 0, none⟩)] [Ck s sb C] (fun v L => v = .tuple #[.int .i64 (totI C.fr), .int .i64 (C.fr.length : Int)] ∧ L = [Ck s sb C]) := by
  refine Spec.intro (IsEnt.out) Tryz.func28 rfl Tryz.ntmps28 (by simp) (fun w0 F => ?_)
  simp only [envOf, List.zipIdx, List.map, List.cons_append, List.nil_append, Nat.zero_add, Nat.reduceAdd]
  have hfl := rf_len' (by have := h.p1; omega) h.p2 h.right
  have hfb := rf_bd h.p2 h.right
  repeat (first | refine Zq ?_ | refine Zs ?_ | refine ZT ?_ | refine ZF ?_ | refine Zc ?_ | refine XO_gU (hk := ?_))
  refine XO_call (kruns_spec s sb C hfl) (hk := ?_)
  rintro _ _ ⟨a, c, rfl, rfl⟩
  repeat (first | refine Zq ?_ | refine Zs ?_ | refine ZT ?_ | refine ZF ?_ | refine Zc ?_ | refine XO_gU (hk := ?_))
  refine X_cond rfl (fun h => by cases h) (fun _ => ?_)
  refine X_open (A := Ck s sb C) (by (repeat (first | exact Find.here | apply Find.there))) Ck.open ?_
  rintro ⟨pb, kb⟩ -
  dsimp only [List.cons_append, List.nil_append]
  repeat (first | refine Zq ?_ | refine Zs ?_ | refine ZT ?_ | refine ZF ?_ | refine Zc ?_ | refine XO_gU (hk := ?_))
  refine XO_call (pfree_spec pb C.P C.t C.fr hfl hfb) (hk := ?_)
  rintro _ _ ⟨rfl, rfl⟩
  repeat (first | refine Zq ?_ | refine Zs ?_ | refine ZT ?_ | refine ZF ?_ | refine Zc ?_ | refine XO_gU (hk := ?_))
  refine XE_fold (by repeat (first | exact FindAll.nil | exact Find.here | apply Find.there | apply FindAll.cons)) (Ck.fold (C := C)) ?_
  refine XE_ret (.inl rfl) (tells_tmps rfl rfl) ⟨_, ⟨rfl, rfl⟩, by ((try simp only [List.cons_append, List.nil_append]); repeat (first | exact ent_refl | refine ent_take (by repeat (first | exact Find.here | apply Find.there)) ?_ | refine ent_drop ?_))⟩
theorem ktake_spec (s sb sc nc : Nat) (C : Co) (n : Int) (h : CoOk C) : Spec Tryz.prog 182 [.pointer (some ⟨sc, 0, none⟩), .pointer (some ⟨nc, 0, none⟩)] [Ck s sb C, pt sc (.cells [.pointer (some ⟨s, 0, none⟩)].toArray 27 (0, 0)), pt nc (.cells [.int .i64 n].toArray 3 (0, 0))]
    (fun v L => v = .tuple #[.int .i64 (takeC C n).2.1, .int .i64 n, .int .i64 (takeC C n).2.2] ∧ L = [Ck s sb (takeC C n).1, pt sc (.cells [.pointer (some ⟨s, 0, none⟩)].toArray 27 (0, 0)), pt nc (.cells [.int .i64 n].toArray 3 (0, 0))]) := by
  refine Spec.intro (IsEnt.out) Tryz.func182 rfl Tryz.ntmps182 (by simp) (fun w0 F => ?_)
  simp only [envOf, List.zipIdx, List.map, List.cons_append, List.nil_append, Nat.zero_add, Nat.reduceAdd]
  refine X_open (A := Ck s sb C) (by (repeat (first | exact Find.here | apply Find.there))) Ck.open ?_
  rintro ⟨pb, kb⟩ -
  dsimp only [List.cons_append, List.nil_append]
  repeat (first | refine Zq ?_ | refine Zs ?_ | refine ZT ?_ | refine ZF ?_ | refine Zc ?_ | refine XO_gU (hk := ?_))
  repeat (first | refine XD_pick (h := ?_) | refine Dq ?_ | refine Ds ?_ | refine XDi_gF (h := ?_) | refine XDi_gU (h := ?_) | refine X_draws (h := ?_))
  refine XD_one (h := ?_)
  refine XDa_dvA (dv_call (ptake_spec pb C.P C.t n C.fr (rf_len' (by have := h.p1; omega) h.p2 h.right) (rf_bd h.p2 h.right))) (hk := ?_)
  rintro v _ ⟨L', hpost, rfl⟩
  obtain ⟨rfl, rfl⟩ := take_stepT hpost
  refine ⟨by (repeat (first | exact keeps_nil | exact keeps_fnil | refine keeps_skip (h := ?_) | refine keeps_takeQ (h := ?_))), ?_⟩
  have hPk := takeC_P C n
  repeat (first | refine XD_pick (h := ?_) | refine Dq ?_ | refine Ds ?_ | refine XDi_gF (h := ?_) | refine XDi_gU (h := ?_) | refine X_draws (h := ?_))
  (refine XD_one (h := ?_); refine XDa_dvA (dv_of_rv (rv_of_pv pv_assign)) (hk := ?_); rintro _ _ ⟨rfl, rfl⟩; refine ⟨by (repeat (first | exact keeps_nil | exact keeps_fnil | refine keeps_skip (h := ?_) | refine keeps_takeQ (h := ?_))), ?_⟩)
  (refine XD_one (h := ?_); refine XDa_dvA (dv_of_rv (rv_of_pv pv_assign)) (hk := ?_); rintro _ _ ⟨rfl, rfl⟩; refine ⟨by (repeat (first | exact keeps_nil | exact keeps_fnil | refine keeps_skip (h := ?_) | refine keeps_takeQ (h := ?_))), ?_⟩)
  (refine XD_end (h := ?_); repeat (first | refine Zq ?_ | refine Zs ?_ | refine ZT ?_ | refine ZF ?_ | refine Zc ?_ | refine XO_gU (hk := ?_)))
  repeat (first | refine XD_pick (h := ?_) | refine Dq ?_ | refine Ds ?_ | refine XDi_gF (h := ?_) | refine XDi_gU (h := ?_) | refine X_draws (h := ?_))
  (refine XD_one (h := ?_); refine XDa_dvA (dv_of_rv (rv_of_pv pv_assign)) (hk := ?_); rintro _ _ ⟨rfl, rfl⟩; refine ⟨by (repeat (first | exact keeps_nil | exact keeps_fnil | refine keeps_skip (h := ?_) | refine keeps_takeQ (h := ?_))), ?_⟩)
  (refine XD_one (h := ?_); refine XDa_dvA (dv_of_rv (rv_of_pv pv_assign)) (hk := ?_); rintro _ _ ⟨rfl, rfl⟩; refine ⟨by (repeat (first | exact keeps_nil | exact keeps_fnil | refine keeps_skip (h := ?_) | refine keeps_takeQ (h := ?_))), ?_⟩)
  (refine XD_one (h := ?_); refine XDa_dvA (dv_of_rv (rv_of_pv pv_assign)) (hk := ?_); rintro _ _ ⟨rfl, rfl⟩; refine ⟨by (repeat (first | exact keeps_nil | exact keeps_fnil | refine keeps_skip (h := ?_) | refine keeps_takeQ (h := ?_))), ?_⟩)
  (refine XD_end (h := ?_); repeat (first | refine Zq ?_ | refine Zs ?_ | refine ZT ?_ | refine ZF ?_ | refine Zc ?_ | refine XO_gU (hk := ?_)))
  refine XE_ret (.inl rfl) (tells_tmps rfl rfl) ⟨_, ⟨rfl, rfl⟩, ?_⟩
  (try simp only [List.cons_append, List.nil_append])
  rw [← hPk.1, ← hPk.2]
  refine ent_fold (by repeat (first | exact FindAll.nil | exact Find.here | apply Find.there | apply FindAll.cons)) (Ck.fold (C := (takeC C n).1)) ?_
  ((try simp only [List.cons_append, List.nil_append]); repeat (first | exact ent_refl | refine ent_take (by repeat (first | exact Find.here | apply Find.there)) ?_ | refine ent_drop ?_))
end Go.Proofs.YtamecmklcnohjaaGreat.Sep
namespace Go.Proofs.YtamecmklcnohjaaGreat.Sep
open Go.RowKit
set_option linter.unusedSimpArgs false
set_option linter.unusedVariables false
/-! chunks: where they come from -/
set_option maxHeartbeats 8000000
attribute [local irreducible] X XE XO XD XDi XDa PV RV DV pt base Spec Sl Mp Keeps Pg Kc Pgs Spc Ck
theorem kpages_spec (s sb : Nat) (C : Co) (p : Int) (h : CoOk C) (h1 : 1 ≤ p) (h2 : p ≤ 1048576) : Spec Tryz.prog 158 [.pointer (some ⟨s, 0, none⟩), .int .i64 p] [Ck s sb C]
    (fun v L => v = .tuple #[.int .i64 (getC C (rnd p)).2.1, .int .i64 (rnd p), .int .i64 (getC C (rnd p)).2.2] ∧ L = [Ck s sb (getC C (rnd p)).1]) := by
  refine Spec.intro (IsEnt.out) Tryz.func158 rfl Tryz.ntmps158 (by simp) (fun w0 F => ?_)
  simp only [envOf, List.zipIdx, List.map, List.cons_append, List.nil_append, Nat.zero_add, Nat.reduceAdd]
  obtain ⟨r1, r2, r3, r4, -, -⟩ := rnd_ok h1 h2
  refine X_open (A := Ck s sb C) (by (repeat (first | exact Find.here | apply Find.there))) Ck.open ?_
  rintro ⟨pb, kb⟩ -
  dsimp only [List.cons_append, List.nil_append]
  repeat (first | refine Zq ?_ | refine Zs ?_ | refine ZT ?_ | refine ZF ?_ | refine Zc ?_ | refine XO_gU (hk := ?_))
  refine XO_dv dv_box1 (hk := ?_)
  rintro _ _ ⟨sc, rfl, rfl⟩
  repeat (first | refine Zq ?_ | refine Zs ?_ | refine ZT ?_ | refine ZF ?_ | refine Zc ?_ | refine XO_gU (hk := ?_))
  refine XO_call (cclass_spec p) (hk := ?_)
  rintro _ _ ⟨rfl, rfl⟩
  repeat (first | refine Zq ?_ | refine Zs ?_ | refine ZT ?_ | refine ZF ?_ | refine Zc ?_ | refine XO_gU (hk := ?_))
  refine XO_call (cpop_spec kb C.ks (cclass p)) (hk := ?_)
  intro v L' hpost
  by_cases hc : 0 ≤ cclass p ∧ cclass p < 7 ∧ 0 < (C.ks (cclass p).toNat).length
  · have hP : cpopP kb C.ks (cclass p) = fun v L => v = .tuple #[.int .i64 ((C.ks (cclass p).toNat).getD ((C.ks (cclass p).toNat).length - 1) 0), .bool true] ∧ L = [Kc kb (upd C.ks (cclass p).toNat (C.ks (cclass p).toNat).dropLast)] := by unfold cpopP; rw [if_pos hc]
    have hg : getC C (rnd p) = (⟨C.P, C.fr, upd C.ks (cclass p).toNat (C.ks (cclass p).toNat).dropLast, C.t⟩, (C.ks (cclass p).toNat).getD ((C.ks (cclass p).toNat).length - 1) 0, 0) := by unfold getC; rw [r4, if_pos hc]
    have hcp : cpages (cclass p) = rnd p := by rw [← r4]; exact r3 (by rw [r4]; exact hc.1)
    rw [hP] at hpost
    obtain ⟨rfl, rfl⟩ := hpost
    rw [hg]
    repeat (first | refine Zq ?_ | refine Zs ?_ | refine ZT ?_ | refine ZF ?_ | refine Zc ?_ | refine XO_gU (hk := ?_))
    refine X_cond rfl (fun _ => ?_) (fun h => by cases h)
    repeat (first | refine Zq ?_ | refine Zs ?_ | refine ZT ?_ | refine ZF ?_ | refine Zc ?_ | refine XO_gU (hk := ?_))
    refine XO_call (cpages_spec (cclass p)) (hk := ?_)
    rintro _ _ ⟨rfl, rfl⟩
    rw [hcp]
    repeat (first | refine Zq ?_ | refine Zs ?_ | refine ZT ?_ | refine ZF ?_ | refine Zc ?_ | refine XO_gU (hk := ?_))
    refine XE_fold (by repeat (first | exact FindAll.nil | exact Find.here | apply Find.there | apply FindAll.cons)) (Ck.fold (C := ⟨C.P, C.fr, upd C.ks (cclass p).toNat (C.ks (cclass p).toNat).dropLast, C.t⟩)) ?_
    refine XE_ret (.inl rfl) (tells_tmps rfl rfl) ⟨_, ⟨rfl, rfl⟩, by ((try simp only [List.cons_append, List.nil_append]); repeat (first | exact ent_refl | refine ent_take (by repeat (first | exact Find.here | apply Find.there)) ?_ | refine ent_drop ?_))⟩
  · have hP : cpopP kb C.ks (cclass p) = fun v L => v = .tuple #[.int .i64 0, .bool false] ∧ L = [Kc kb C.ks] := by unfold cpopP; rw [if_neg hc]
    have hg : getC C (rnd p) = if (takeC C (rnd p)).2.2 = 4 then (if 0 < trimN C then takeC (trimC C) (rnd p) else (trimC C, (takeC C (rnd p)).2)) else takeC C (rnd p) := by conv => lhs; unfold getC; rw [r4, if_neg hc]
    rw [hP] at hpost
    obtain ⟨rfl, rfl⟩ := hpost
    rw [hg]
    repeat (first | refine Zq ?_ | refine Zs ?_ | refine ZT ?_ | refine ZF ?_ | refine Zc ?_ | refine XO_gU (hk := ?_))
    refine X_cond rfl (fun h => by cases h) (fun _ => ?_)
    repeat (first | refine Zq ?_ | refine Zs ?_ | refine ZT ?_ | refine ZF ?_ | refine Zc ?_ | refine XO_gU (hk := ?_))
    refine XO_call (cpages_spec (cclass p)) (hk := ?_)
    rintro _ _ ⟨rfl, rfl⟩
    repeat (first | refine Zq ?_ | refine Zs ?_ | refine ZT ?_ | refine ZF ?_ | refine Zc ?_ | refine XO_gU (hk := ?_))
    refine XO_dv (dv_alloc (row := [.int .i64 0])) (hk := ?_)
    rintro _ _ ⟨nc, rfl, rfl⟩
    refine XO_dv0 (dv_store (row' := [.int .i64 (rnd p)])) (hk := ?_)
    rintro _ _ rfl
    repeat (first | refine Zq ?_ | refine Zs ?_ | refine ZT ?_ | refine ZF ?_ | refine Zc ?_ | refine XO_gU (hk := ?_))
    refine XO_fold (by repeat (first | exact FindAll.nil | exact Find.here | apply Find.there | apply FindAll.cons)) (Ck.fold (C := C)) ?_
    refine XO_call (ktake_spec s sb sc nc C (rnd p) h) (hk := ?_)
    rintro _ _ ⟨rfl, rfl⟩
    repeat (first | refine Zq ?_ | refine Zs ?_ | refine ZT ?_ | refine ZF ?_ | refine Zc ?_ | refine XO_gU (hk := ?_))
    refine XO_dv0 (dv_store (row' := [.int .i64 (rnd p)])) (hk := ?_)
    rintro _ _ rfl
    repeat (first | refine Zq ?_ | refine Zs ?_ | refine ZT ?_ | refine ZF ?_ | refine Zc ?_ | refine XO_gU (hk := ?_))
    by_cases he : (takeC C (rnd p)).2.2 = 4
    · obtain ⟨g1, g2⟩ := takeC_full he
      have hv1 : (takeC C (rnd p)).2.1 = 0 := by rw [g2]
      rw [if_pos he]
      rw [he, hv1, g1]
      refine XO_known true (hb := rfl) (hk := ?_)
      repeat (first | refine Zq ?_ | refine Zs ?_ | refine ZT ?_ | refine ZF ?_ | refine Zc ?_ | refine XO_gU (hk := ?_))
      refine XO_call (ctrim_spec s sb C h) (hk := ?_)
      rintro _ _ ⟨rfl, rfl⟩
      repeat (first | refine Zq ?_ | refine Zs ?_ | refine ZT ?_ | refine ZF ?_ | refine Zc ?_ | refine XO_gU (hk := ?_))
      refine X_cond rfl (fun h3 => ?_) (fun h3 => ?_) <;> simp only [decide_eq_true_eq, decide_eq_false_iff_not] at h3
      · rw [if_pos h3]
        repeat (first | refine Zq ?_ | refine Zs ?_ | refine ZT ?_ | refine ZF ?_ | refine Zc ?_ | refine XO_gU (hk := ?_))
        refine XO_call (ktake_spec s sb sc nc (trimC C) (rnd p) (trimC_ok h)) (hk := ?_)
        rintro _ _ ⟨rfl, rfl⟩
        repeat (first | refine Zq ?_ | refine Zs ?_ | refine ZT ?_ | refine ZF ?_ | refine Zc ?_ | refine XO_gU (hk := ?_))
        refine XE_ret (.inl rfl) (tells_tmps rfl rfl) ⟨_, ⟨rfl, rfl⟩, by ((try simp only [List.cons_append, List.nil_append]); repeat (first | exact ent_refl | refine ent_take (by repeat (first | exact Find.here | apply Find.there)) ?_ | refine ent_drop ?_))⟩
      · rw [if_neg h3, g2]
        repeat (first | refine Zq ?_ | refine Zs ?_ | refine ZT ?_ | refine ZF ?_ | refine Zc ?_ | refine XO_gU (hk := ?_))
        repeat (first | refine XD_pick (h := ?_) | refine Dq ?_ | refine Ds ?_ | refine XDi_gF (h := ?_) | refine XDi_gU (h := ?_) | refine X_draws (h := ?_))
        (refine XD_one (h := ?_); refine XDa_dvA (dv_of_rv (rv_of_pv pv_assign)) (hk := ?_); rintro _ _ ⟨rfl, rfl⟩; refine ⟨by (repeat (first | exact keeps_nil | exact keeps_fnil | refine keeps_skip (h := ?_) | refine keeps_takeQ (h := ?_))), ?_⟩)
        (refine XD_one (h := ?_); refine XDa_dvA (dv_of_rv (rv_of_pv pv_assign)) (hk := ?_); rintro _ _ ⟨rfl, rfl⟩; refine ⟨by (repeat (first | exact keeps_nil | exact keeps_fnil | refine keeps_skip (h := ?_) | refine keeps_takeQ (h := ?_))), ?_⟩)
        (refine XD_one (h := ?_); refine XDa_dvA (dv_of_rv (rv_of_pv pv_assign)) (hk := ?_); rintro _ _ ⟨rfl, rfl⟩; refine ⟨by (repeat (first | exact keeps_nil | exact keeps_fnil | refine keeps_skip (h := ?_) | refine keeps_takeQ (h := ?_))), ?_⟩)
        (refine XD_end (h := ?_); repeat (first | refine Zq ?_ | refine Zs ?_ | refine ZT ?_ | refine ZF ?_ | refine Zc ?_ | refine XO_gU (hk := ?_)))
        refine XE_ret (.inl rfl) (tells_tmps rfl rfl) ⟨_, ⟨rfl, rfl⟩, by ((try simp only [List.cons_append, List.nil_append]); repeat (first | exact ent_refl | refine ent_take (by repeat (first | exact Find.here | apply Find.there)) ?_ | refine ent_drop ?_))⟩
    · rw [if_neg he]
      refine XO_known false (hb := by simpa using he) (hk := ?_)
      repeat (first | refine Zq ?_ | refine Zs ?_ | refine ZT ?_ | refine ZF ?_ | refine Zc ?_ | refine XO_gU (hk := ?_))
      refine X_cond rfl (fun h => by cases h) (fun _ => ?_)
      repeat (first | refine Zq ?_ | refine Zs ?_ | refine ZT ?_ | refine ZF ?_ | refine Zc ?_ | refine XO_gU (hk := ?_))
      repeat (first | refine XD_pick (h := ?_) | refine Dq ?_ | refine Ds ?_ | refine XDi_gF (h := ?_) | refine XDi_gU (h := ?_) | refine X_draws (h := ?_))
      (refine XD_one (h := ?_); refine XDa_dvA (dv_of_rv (rv_of_pv pv_assign)) (hk := ?_); rintro _ _ ⟨rfl, rfl⟩; refine ⟨by (repeat (first | exact keeps_nil | exact keeps_fnil | refine keeps_skip (h := ?_) | refine keeps_takeQ (h := ?_))), ?_⟩)
      (refine XD_one (h := ?_); refine XDa_dvA (dv_of_rv (rv_of_pv pv_assign)) (hk := ?_); rintro _ _ ⟨rfl, rfl⟩; refine ⟨by (repeat (first | exact keeps_nil | exact keeps_fnil | refine keeps_skip (h := ?_) | refine keeps_takeQ (h := ?_))), ?_⟩)
      (refine XD_one (h := ?_); refine XDa_dvA (dv_of_rv (rv_of_pv pv_assign)) (hk := ?_); rintro _ _ ⟨rfl, rfl⟩; refine ⟨by (repeat (first | exact keeps_nil | exact keeps_fnil | refine keeps_skip (h := ?_) | refine keeps_takeQ (h := ?_))), ?_⟩)
      (refine XD_end (h := ?_); repeat (first | refine Zq ?_ | refine Zs ?_ | refine ZT ?_ | refine ZF ?_ | refine Zc ?_ | refine XO_gU (hk := ?_)))
      refine XE_ret (.inl rfl) (tells_tmps rfl rfl) ⟨_, ⟨rfl, rfl⟩, by ((try simp only [List.cons_append, List.nil_append]); repeat (first | exact ent_refl | refine ent_take (by repeat (first | exact Find.here | apply Find.there)) ?_ | refine ent_drop ?_))⟩
end Go.Proofs.YtamecmklcnohjaaGreat.Sep
