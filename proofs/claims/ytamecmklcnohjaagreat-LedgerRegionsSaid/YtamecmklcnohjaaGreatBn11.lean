import Derived.Test.YtamecmklcnohjaaGreatBn10
import Derived.Test.YtamecmklcnohjaaGreatBn7
/- What the laws share: a separation logic over the model, and what the program's functions do, by it. Part 11 of 14: ChunkD HeadD HeadE HeadF. -/
namespace Go.Proofs.YtamecmklcnohjaaGreat.Sep
open Go.RowKit
set_option linter.unusedSimpArgs false
set_option linter.unusedVariables false
/-! chunks that are put -/
def putCE (C : Co) (r : Int × Int) : Int :=
  if cpages (cclass r.2) = r.2 ∧ 0 ≤ cclass r.2 ∧ cclass r.2 < 7 ∧ 0 ≤ r.1 ∧ (C.ks (cclass r.2).toNat).length < 4 then 0 else giveE C r
/-- What is touched, and made 0, when a chunk is put. -/
def kputM (P : Int) (m : Mm) (page : Int) : Mm := zzM (hrM P (hrM P m page) page) (page * 4096) 32
def kputV (s sb : Nat) (C : Co) (m : Mm) (page : Int) : Value → List HP → Prop :=
  if (readI C.P m.f page).2 = 0 then fun v L => v = .int .i64 (putCE C (page, (readI C.P m.f page).1.pages)) ∧ L = [Ck s sb (putC C (page, (readI C.P m.f page).1.pages)), Spc sb C.P (kputM C.P m page)]
  else fun v L => v = .int .i64 (readI C.P m.f page).2 ∧ L = [Ck s sb C, Spc sb C.P (hrM C.P m page)]
theorem readI_ok {P : Int} {m : Int → Int} {page : Int} (h : (readI P m page).2 = 0) : HdOk (readI P m page).1 := by
  have hin := readI_in h
  unfold readI at h ⊢
  rw [if_pos hin] at h ⊢
  cases hr : hdRead (rdM m (page * 4096) 32) with
  | none => rw [hr] at h; exact absurd h (by decide)
  | some hd =>
    unfold hdRead at hr
    split at hr
    · rename_i hc
      cases hr
      exact hc.2
    · cases hr
set_option maxHeartbeats 8000000
attribute [local irreducible] X XE XO XD XDi XDa PV RV DV pt base Spec Sl Mp Keeps Pg Kc Pgs Spc Ck
theorem kput_spec (s sb : Nat) (C : Co) (m : Mm) (page : Int) (h : CoOk C) : Spec Tryz.prog 167 [.pointer (some ⟨s, 0, none⟩), .int .i64 page] [Ck s sb C, Spc sb C.P m] (kputV s sb C m page) := by
  refine Spec.intro (IsEnt.out) Tryz.func167 rfl Tryz.ntmps167 (by simp) (fun w0 F => ?_)
  simp only [envOf, List.zipIdx, List.map, List.cons_append, List.nil_append, Nat.zero_add, Nat.reduceAdd]
  have hP1 := h.p1
  have hP2 := h.p2
  repeat (first | refine Zq ?_ | refine Zs ?_ | refine ZT ?_ | refine ZF ?_ | refine Zc ?_ | refine XO_gU (hk := ?_))
  refine XO_call (kspace_spec s sb C) (hk := ?_)
  rintro _ _ ⟨rfl, rfl⟩
  repeat (first | refine Zq ?_ | refine Zs ?_ | refine ZT ?_ | refine ZF ?_ | refine Zc ?_ | refine XO_gU (hk := ?_))
  refine XO_call (hread_spec sb C.P m page (by omega) hP2) (hk := ?_)
  rintro _ _ ⟨rfl, rfl⟩
  repeat (first | refine Zq ?_ | refine Zs ?_ | refine ZT ?_ | refine ZF ?_ | refine Zc ?_ | refine XO_gU (hk := ?_))
  refine XO_dv (dv_alloc (row := [.int .i64 0, .int .i64 0, .int .u64 0, .int .u64 0])) (hk := ?_)
  rintro _ _ ⟨hb, rfl, rfl⟩
  refine XO_dv0 (dv_storeW (vs := [.int .i64 (readI C.P m.f page).1.pages, .int .i64 (readI C.P m.f page).1.kind, .int .u64 (readI C.P m.f page).1.owner, .int .u64 (readI C.P m.f page).1.next])) (hk := ?_)
  rintro _ _ rfl
  repeat (first | refine Zq ?_ | refine Zs ?_ | refine ZT ?_ | refine ZF ?_ | refine Zc ?_ | refine XO_gU (hk := ?_))
  by_cases hz : (readI C.P m.f page).2 = 0
  case neg =>
    have hv : kputV s sb C m page = fun v L => v = .int .i64 (readI C.P m.f page).2 ∧ L = [Ck s sb C, Spc sb C.P (hrM C.P m page)] := by unfold kputV; rw [if_neg hz]
    rw [hv]
    refine X_cond rfl (fun _ => ?_) (fun h => ?_)
    · repeat (first | refine Zq ?_ | refine Zs ?_ | refine ZT ?_ | refine ZF ?_ | refine Zc ?_ | refine XO_gU (hk := ?_))
      refine XE_ret (.inl rfl) (tells_tmps rfl rfl) ⟨_, ⟨rfl, rfl⟩, by ((try simp only [List.cons_append, List.nil_append]); repeat (first | exact ent_refl | refine ent_take (by repeat (first | exact Find.here | apply Find.there)) ?_ | refine ent_drop ?_))⟩
    · exact absurd (by simpa using h) hz
  have hv : kputV s sb C m page = fun v L => v = .int .i64 (putCE C (page, (readI C.P m.f page).1.pages)) ∧ L = [Ck s sb (putC C (page, (readI C.P m.f page).1.pages)), Spc sb C.P (kputM C.P m page)] := by unfold kputV; rw [if_pos hz]
  have hcl := hclear_spec sb C.P (hrM C.P m page) page (by omega) hP2
  unfold clearV at hcl
  rw [show (hrM C.P m page).f = m.f from rfl] at hcl
  rw [if_pos hz] at hcl
  obtain ⟨p0, p1⟩ := readI_in hz
  have hok := readI_ok hz
  rw [hv, hz]
  generalize (readI C.P m.f page).1 = hd at hok hcl ⊢
  obtain ⟨k1, k2, k3, k4⟩ := hok
  refine X_cond rfl (fun h => by cases h) (fun _ => ?_)
  refine X_open (A := Ck s sb C) (by (repeat (first | exact Find.here | apply Find.there))) Ck.open ?_
  rintro ⟨pb, kb⟩ -
  dsimp only [List.cons_append, List.nil_append]
  repeat (first | refine Zq ?_ | refine Zs ?_ | refine ZT ?_ | refine ZF ?_ | refine Zc ?_ | refine XO_gU (hk := ?_))
  refine XO_call hcl (hk := ?_)
  rintro _ _ ⟨rfl, rfl⟩
  repeat (first | refine Zq ?_ | refine Zs ?_ | refine ZT ?_ | refine ZF ?_ | refine Zc ?_ | refine XO_gU (hk := ?_))
  refine X_cond rfl (fun h => by cases h) (fun _ => ?_)
  repeat (first | refine Zq ?_ | refine Zs ?_ | refine ZT ?_ | refine ZF ?_ | refine Zc ?_ | refine XO_gU (hk := ?_))
  refine XO_call (cclass_spec hd.pages) (hk := ?_)
  rintro _ _ ⟨rfl, rfl⟩
  repeat (first | refine Zq ?_ | refine Zs ?_ | refine ZT ?_ | refine ZF ?_ | refine Zc ?_ | refine XO_gU (hk := ?_))
  repeat (first | refine XD_pick (h := ?_) | refine Dq ?_ | refine Ds ?_ | refine XDi_gF (h := ?_) | refine XDi_gU (h := ?_) | refine X_draws (h := ?_))
  refine XD_one (h := ?_)
  refine XDa_dvA (dv_call (cpages_spec (cclass hd.pages))) (hk := ?_)
  (rintro _ _ ⟨_, ⟨rfl, rfl⟩, rfl⟩; refine ⟨by (repeat (first | exact keeps_nil | exact keeps_fnil | refine keeps_skip (h := ?_) | refine keeps_takeQ (h := ?_))), ?_⟩)
  repeat (first | refine XD_pick (h := ?_) | refine Dq ?_ | refine Ds ?_ | refine XDi_gF (h := ?_) | refine XDi_gU (h := ?_) | refine X_draws (h := ?_))
  refine XDi_either (hT := fun hq => ?hT) (hF := fun hq => ?hF)
  case hF =>
    have hne : ¬ cpages (cclass hd.pages) = hd.pages := by simpa using hq
    have hput : putC C (page, hd.pages) = giveC C (page, hd.pages) := by unfold putC; rw [if_neg (fun h' => hne h'.1)]
    have hE : putCE C (page, hd.pages) = giveE C (page, hd.pages) := by unfold putCE; rw [if_neg (fun h' => hne h'.1)]
    repeat (first | refine XD_pick (h := ?_) | refine Dq ?_ | refine Ds ?_ | refine XDi_gF (h := ?_) | refine XDi_gU (h := ?_) | refine X_draws (h := ?_))
    (refine XD_head (h := ?_); first | refine XDi_gF (h := ?_) | refine XDi_gU (h := ?_))
    repeat (first | refine XD_pick (h := ?_) | refine Dq ?_ | refine Ds ?_ | refine XDi_gF (h := ?_) | refine XDi_gU (h := ?_) | refine X_draws (h := ?_))
    (refine XD_end (h := ?_); repeat (first | refine Zq ?_ | refine Zs ?_ | refine ZT ?_ | refine ZF ?_ | refine Zc ?_ | refine XO_gU (hk := ?_)))
    refine X_cond rfl (fun h => by cases h) (fun _ => ?_)
    repeat (first | refine Zq ?_ | refine Zs ?_ | refine ZT ?_ | refine ZF ?_ | refine Zc ?_ | refine XO_gU (hk := ?_))
    repeat (first | refine XD_pick (h := ?_) | refine Dq ?_ | refine Ds ?_ | refine XDi_gF (h := ?_) | refine XDi_gU (h := ?_) | refine X_draws (h := ?_))
    refine XD_one (h := ?_)
    refine XDa_dvA (dv_call (pgive_spec pb C.P C.t page hd.pages C.fr (rf_len' (by have := h.p1; omega) h.p2 h.right) (rf_bd h.p2 h.right) (by have := h.p1; omega) h.p2 (by omega) (by omega) (by omega) (by omega))) (hk := ?_)
    rintro v _ ⟨L', hpost, rfl⟩
    obtain ⟨rfl, rfl⟩ := give_stepT (r := (page, hd.pages)) hpost
    refine ⟨by (repeat (first | exact keeps_nil | exact keeps_fnil | refine keeps_skip (h := ?_) | refine keeps_takeQ (h := ?_))), ?_⟩
    repeat (first | refine XD_pick (h := ?_) | refine Dq ?_ | refine Ds ?_ | refine XDi_gF (h := ?_) | refine XDi_gU (h := ?_) | refine X_draws (h := ?_))
    (refine XD_one (h := ?_); refine XDa_dvA (dv_of_rv (rv_of_pv pv_assign)) (hk := ?_); rintro _ _ ⟨rfl, rfl⟩; refine ⟨by (repeat (first | exact keeps_nil | exact keeps_fnil | refine keeps_skip (h := ?_) | refine keeps_takeQ (h := ?_))), ?_⟩)
    (refine XD_end (h := ?_); repeat (first | refine Zq ?_ | refine Zs ?_ | refine ZT ?_ | refine ZF ?_ | refine Zc ?_ | refine XO_gU (hk := ?_)))
    rw [hput, hE]
    refine XE_ret (.inl rfl) (tells_tmps rfl rfl) ⟨_, ⟨rfl, rfl⟩, ?_⟩
    (try simp only [List.cons_append, List.nil_append])
    refine ent_fold (by repeat (first | exact FindAll.nil | exact Find.here | apply Find.there | apply FindAll.cons)) (Ck.fold (C := giveC C (page, hd.pages))) ?_
    ((try simp only [List.cons_append, List.nil_append]); repeat (first | exact ent_refl | refine ent_take (by repeat (first | exact Find.here | apply Find.there)) ?_ | refine ent_drop ?_))
  have heq : cpages (cclass hd.pages) = hd.pages := by simpa using hq
  repeat (first | refine XD_pick (h := ?_) | refine Dq ?_ | refine Ds ?_ | refine XDi_gF (h := ?_) | refine XDi_gU (h := ?_) | refine X_draws (h := ?_))
  refine XD_one (h := ?_)
  refine XDa_dvA (dv_call (cpush_spec kb C.ks (cclass hd.pages) page)) (hk := ?_)
  rintro v _ ⟨L', hpost, rfl⟩
  by_cases hc : 0 ≤ cclass hd.pages ∧ cclass hd.pages < 7 ∧ 0 ≤ page ∧ (C.ks (cclass hd.pages).toNat).length < 4
  · have hP : cpushP kb C.ks (cclass hd.pages) page = fun v L => v = .bool true ∧ L = [Kc kb (upd C.ks (cclass hd.pages).toNat (C.ks (cclass hd.pages).toNat ++ [page]))] := by unfold cpushP; rw [if_pos hc]
    have hput : putC C (page, hd.pages) = ⟨C.P, C.fr, upd C.ks (cclass hd.pages).toNat (C.ks (cclass hd.pages).toNat ++ [page]), C.t⟩ := by unfold putC; rw [if_pos ⟨heq, hc⟩]
    have hE : putCE C (page, hd.pages) = 0 := by unfold putCE; rw [if_pos ⟨heq, hc⟩]
    rw [hP] at hpost
    obtain ⟨rfl, rfl⟩ := hpost
    refine ⟨by (repeat (first | exact keeps_nil | exact keeps_fnil | refine keeps_skip (h := ?_) | refine keeps_takeQ (h := ?_))), ?_⟩
    repeat (first | refine XD_pick (h := ?_) | refine Dq ?_ | refine Ds ?_ | refine XDi_gF (h := ?_) | refine XDi_gU (h := ?_) | refine X_draws (h := ?_))
    (refine XD_end (h := ?_); repeat (first | refine Zq ?_ | refine Zs ?_ | refine ZT ?_ | refine ZF ?_ | refine Zc ?_ | refine XO_gU (hk := ?_)))
    refine X_cond rfl (fun _ => ?_) (fun h => by cases h)
    repeat (first | refine Zq ?_ | refine Zs ?_ | refine ZT ?_ | refine ZF ?_ | refine Zc ?_ | refine XO_gU (hk := ?_))
    rw [hput, hE]
    refine XE_ret (.inl rfl) (tells_tmps rfl rfl) ⟨_, ⟨rfl, rfl⟩, ?_⟩
    (try simp only [List.cons_append, List.nil_append])
    refine ent_fold (by repeat (first | exact FindAll.nil | exact Find.here | apply Find.there | apply FindAll.cons)) (Ck.fold (C := ⟨C.P, C.fr, upd C.ks (cclass hd.pages).toNat (C.ks (cclass hd.pages).toNat ++ [page]), C.t⟩)) ?_
    ((try simp only [List.cons_append, List.nil_append]); repeat (first | exact ent_refl | refine ent_take (by repeat (first | exact Find.here | apply Find.there)) ?_ | refine ent_drop ?_))
  · have hP : cpushP kb C.ks (cclass hd.pages) page = fun v L => v = .bool false ∧ L = [Kc kb C.ks] := by unfold cpushP; rw [if_neg hc]
    have hput : putC C (page, hd.pages) = giveC C (page, hd.pages) := by unfold putC; rw [if_neg (fun h' => hc h'.2)]
    have hE : putCE C (page, hd.pages) = giveE C (page, hd.pages) := by unfold putCE; rw [if_neg (fun h' => hc h'.2)]
    rw [hP] at hpost
    obtain ⟨rfl, rfl⟩ := hpost
    refine ⟨by (repeat (first | exact keeps_nil | exact keeps_fnil | refine keeps_skip (h := ?_) | refine keeps_takeQ (h := ?_))), ?_⟩
    repeat (first | refine XD_pick (h := ?_) | refine Dq ?_ | refine Ds ?_ | refine XDi_gF (h := ?_) | refine XDi_gU (h := ?_) | refine X_draws (h := ?_))
    (refine XD_end (h := ?_); repeat (first | refine Zq ?_ | refine Zs ?_ | refine ZT ?_ | refine ZF ?_ | refine Zc ?_ | refine XO_gU (hk := ?_)))
    refine X_cond rfl (fun h => by cases h) (fun _ => ?_)
    repeat (first | refine Zq ?_ | refine Zs ?_ | refine ZT ?_ | refine ZF ?_ | refine Zc ?_ | refine XO_gU (hk := ?_))
    repeat (first | refine XD_pick (h := ?_) | refine Dq ?_ | refine Ds ?_ | refine XDi_gF (h := ?_) | refine XDi_gU (h := ?_) | refine X_draws (h := ?_))
    refine XD_one (h := ?_)
    refine XDa_dvA (dv_call (pgive_spec pb C.P C.t page hd.pages C.fr (rf_len' (by have := h.p1; omega) h.p2 h.right) (rf_bd h.p2 h.right) (by have := h.p1; omega) h.p2 (by omega) (by omega) (by omega) (by omega))) (hk := ?_)
    rintro v _ ⟨L', hpost, rfl⟩
    obtain ⟨rfl, rfl⟩ := give_stepT (r := (page, hd.pages)) hpost
    refine ⟨by (repeat (first | exact keeps_nil | exact keeps_fnil | refine keeps_skip (h := ?_) | refine keeps_takeQ (h := ?_))), ?_⟩
    repeat (first | refine XD_pick (h := ?_) | refine Dq ?_ | refine Ds ?_ | refine XDi_gF (h := ?_) | refine XDi_gU (h := ?_) | refine X_draws (h := ?_))
    (refine XD_one (h := ?_); refine XDa_dvA (dv_of_rv (rv_of_pv pv_assign)) (hk := ?_); rintro _ _ ⟨rfl, rfl⟩; refine ⟨by (repeat (first | exact keeps_nil | exact keeps_fnil | refine keeps_skip (h := ?_) | refine keeps_takeQ (h := ?_))), ?_⟩)
    (refine XD_end (h := ?_); repeat (first | refine Zq ?_ | refine Zs ?_ | refine ZT ?_ | refine ZF ?_ | refine Zc ?_ | refine XO_gU (hk := ?_)))
    rw [hput, hE]
    refine XE_ret (.inl rfl) (tells_tmps rfl rfl) ⟨_, ⟨rfl, rfl⟩, ?_⟩
    (try simp only [List.cons_append, List.nil_append])
    refine ent_fold (by repeat (first | exact FindAll.nil | exact Find.here | apply Find.there | apply FindAll.cons)) (Ck.fold (C := giveC C (page, hd.pages))) ?_
    ((try simp only [List.cons_append, List.nil_append]); repeat (first | exact ent_refl | refine ent_take (by repeat (first | exact Find.here | apply Find.there)) ?_ | refine ent_drop ?_))
end Go.Proofs.YtamecmklcnohjaaGreat.Sep
namespace Go.Proofs.YtamecmklcnohjaaGreat.Sep
open Go.RowKit
set_option linter.unusedSimpArgs false
set_option linter.unusedVariables false
/-! pieces that are joined -/
def outJ (b1 b2 b3 : List Int) : Nat → List Int
  | 0 => []
  | 1 => b1
  | 2 => b1 ++ b2
  | _ => b1 ++ (b2 ++ b3)
def lenJ : Nat → Int
  | 0 => 0
  | 1 => 8
  | 2 => 16
  | _ => 32
set_option maxHeartbeats 8000000
attribute [local irreducible] X XE XO XD XDi XDa PV RV DV pt base Spec Sl Mp Keeps Pgs Spc
theorem join_spec (A A1 A2 A3 : HP) (a a1 a2 a3 : Option Addr) (c c1 c2 c3 : Nat) (b1 b2 b3 : List Int) (hV : View A eSl a [(a1, 8, c1), (a2, 8, c2), (a3, 16, c3)])
    (V1 : View A1 (eI .u8) a1 b1) (V2 : View A2 (eI .u8) a2 b2) (V3 : View A3 (eI .u8) a3 b3) (h1 : b1.length = 8) (h2 : b2.length = 8) (h3 : b3.length = 16) :
    Spec Tryz.prog 184 [.slice a 3 c] [A, A1, A2, A3] (fun v L => ∃ ob, v = .slice (some ⟨ob, 0, none⟩) 32 32 ∧ L = [Sl (eI .u8) (some ⟨ob, 0, none⟩) 32 (b1 ++ (b2 ++ b3)), A, A1, A2, A3]) := by
  refine Spec.intro (IsEnt.out) Tryz.func184 rfl Tryz.ntmps184 (by simp) (fun w0 F => ?_)
  simp only [envOf, List.zipIdx, List.map, List.cons_append, List.nil_append, Nat.zero_add, Nat.reduceAdd]
  refine X_view (A := A) (by (repeat (first | exact Find.here | apply Find.there))) hV (by simp) ?_
  rintro b o rfl
  repeat (first | refine Zq ?_ | refine Zs ?_ | refine ZT ?_ | refine ZF ?_ | refine Zc ?_ | refine XO_gU (hk := ?_))
  refine XO_dv (dv_makeSlice (E' := eI .u8) 0) (hk := ?_)
  rintro _ _ ⟨ob, rfl, rfl⟩
  repeat (first | refine Zq ?_ | refine Zs ?_ | refine ZT ?_ | refine ZF ?_ | refine Zc ?_ | refine XO_gU (hk := ?_))
  refine X_loop (ι := Nat) (fun i => i ≤ 3) (fun i => [(3, .slice (some ⟨ob, 0, none⟩) 32 32), (4, .int .i64 (lenJ i)), (8, .slice (some ⟨b, o, none⟩) 3 c), (9, .int .i64 3), (10, .int .i64 (i : Int))]) (fun i => Sl (eI .u8) (some ⟨ob, 0, none⟩) 32 (outJ b1 b2 b3 i ++ List.replicate (32 - (lenJ i).toNat) 0) :: A :: A1 :: A2 :: A3 :: F) (fun i => 3 - i) 0 (by decide) ?_ (by ((try simp only [List.cons_append, List.nil_append]); repeat (first | exact ent_refl | refine ent_take (by repeat (first | exact Find.here | apply Find.there)) ?_ | refine ent_drop ?_))) ?_
  · (repeat (first | exact Env.sub_nil _ | refine Env.sub_cons rfl ?_))
  intro i hi
  dsimp only at hi ⊢
  rcases (show i = 0 ∨ i ≠ 0 from by omega) with rfl | hne0
  · have hl : lenJ 0 = 0 := rfl
    repeat (first | refine Zq ?_ | refine Zs ?_ | refine ZT ?_ | refine ZF ?_ | refine Zc ?_ | refine XO_gU (hk := ?_))
    refine X_cond rfl (fun _ => ?_) (fun h => absurd h (by decide))
    repeat (first | refine Zq ?_ | refine Zs ?_ | refine ZT ?_ | refine ZF ?_ | refine Zc ?_ | refine XO_gU (hk := ?_))
    refine XO_rv (rv_velG (E' := eSl) (s := 1) (i := 0) (x' := (a1, 8, c1)) (hV := hV) (hget := rfl)) (hk := ?_)
    refine XO_reval 13 (.slice a1 8 c1) (hv := rfl) (hk := ?_)
    repeat (first | refine Zq ?_ | refine Zs ?_ | refine ZT ?_ | refine ZF ?_ | refine Zc ?_ | refine XO_gU (hk := ?_))
    refine XO_dv (dv_copyAt (E' := eI .u8) (i := 0) (s := 1) (o := 0) (b := ob) (c := 32) (m := 8) (m1 := 32 - 0) (a2 := a1) (xs := ([] : List Int) ++ List.replicate (32 - 0) 0) (ys := b1) (A := A1)
      (hx := by show some (Value.slice (subA (some ⟨ob, 0, none⟩) 0 32 1) (32 - 0) (32 - 0)) = _; rw [subA_lt (by decide)]) (hy := rfl) (hv := V1) (hn := by rw [h1]; rfl) (hm1 := by rw [List.length_append, List.length_replicate]; simp [h1, h2, h3])) (hk := ?_)
    rintro _ _ ⟨rfl, rfl⟩
    have e : (([] : List Int) ++ List.replicate (32 - 0) 0).take 0 ++ (b1 ++ (([] : List Int) ++ List.replicate (32 - 0) 0).drop (0 + b1.length)) = b1 ++ List.replicate (32 - 8) 0 := by
      simp [cutIn, h1]
    rw [e, h1]
    repeat (first | refine Zq ?_ | refine Zs ?_ | refine ZT ?_ | refine ZF ?_ | refine Zc ?_ | refine XO_gU (hk := ?_))
    exact X_round 1 (by decide) (by decide) (by (repeat (first | exact Env.sub_nil _ | refine Env.sub_cons rfl ?_))) (by ((try simp only [List.cons_append, List.nil_append]); repeat (first | exact ent_refl | refine ent_take (by repeat (first | exact Find.here | apply Find.there)) ?_ | refine ent_drop ?_)))
  rcases (show i = 1 ∨ i ≠ 1 from by omega) with rfl | hne1
  · have hl : lenJ 1 = 8 := rfl
    repeat (first | refine Zq ?_ | refine Zs ?_ | refine ZT ?_ | refine ZF ?_ | refine Zc ?_ | refine XO_gU (hk := ?_))
    refine X_cond rfl (fun _ => ?_) (fun h => absurd h (by decide))
    repeat (first | refine Zq ?_ | refine Zs ?_ | refine ZT ?_ | refine ZF ?_ | refine Zc ?_ | refine XO_gU (hk := ?_))
    refine XO_rv (rv_velG (E' := eSl) (s := 1) (i := 1) (x' := (a2, 8, c2)) (hV := hV) (hget := rfl)) (hk := ?_)
    refine XO_reval 13 (.slice a2 8 c2) (hv := rfl) (hk := ?_)
    repeat (first | refine Zq ?_ | refine Zs ?_ | refine ZT ?_ | refine ZF ?_ | refine Zc ?_ | refine XO_gU (hk := ?_))
    refine XO_dv (dv_copyAt (E' := eI .u8) (i := 8) (s := 1) (o := 0) (b := ob) (c := 32) (m := 8) (m1 := 32 - 8) (a2 := a2) (xs := b1 ++ List.replicate (32 - 8) 0) (ys := b2) (A := A2)
      (hx := by show some (Value.slice (subA (some ⟨ob, 0, none⟩) 8 32 1) (32 - 8) (32 - 8)) = _; rw [subA_lt (by decide)]) (hy := rfl) (hv := V2) (hn := by rw [h2]; rfl) (hm1 := by rw [List.length_append, List.length_replicate]; simp [h1, h2, h3])) (hk := ?_)
    rintro _ _ ⟨rfl, rfl⟩
    have e : (b1 ++ List.replicate (32 - 8) 0).take 8 ++ (b2 ++ (b1 ++ List.replicate (32 - 8) 0).drop (8 + b2.length)) = (b1 ++ b2) ++ List.replicate (32 - 16) 0 := by
      have := cut_zeros (p := b1) (q := b2) (r := 32 - 8) (by rw [h2]; decide)
      rw [show (b1).length = 8 from by simp [h1, h2, h3], h2] at this
      simpa [cutIn, h2] using this
    rw [e, h2]
    repeat (first | refine Zq ?_ | refine Zs ?_ | refine ZT ?_ | refine ZF ?_ | refine Zc ?_ | refine XO_gU (hk := ?_))
    exact X_round 2 (by decide) (by decide) (by (repeat (first | exact Env.sub_nil _ | refine Env.sub_cons rfl ?_))) (by ((try simp only [List.cons_append, List.nil_append]); repeat (first | exact ent_refl | refine ent_take (by repeat (first | exact Find.here | apply Find.there)) ?_ | refine ent_drop ?_)))
  rcases (show i = 2 ∨ i ≠ 2 from by omega) with rfl | hne2
  · have hl : lenJ 2 = 16 := rfl
    repeat (first | refine Zq ?_ | refine Zs ?_ | refine ZT ?_ | refine ZF ?_ | refine Zc ?_ | refine XO_gU (hk := ?_))
    refine X_cond rfl (fun _ => ?_) (fun h => absurd h (by decide))
    repeat (first | refine Zq ?_ | refine Zs ?_ | refine ZT ?_ | refine ZF ?_ | refine Zc ?_ | refine XO_gU (hk := ?_))
    refine XO_rv (rv_velG (E' := eSl) (s := 1) (i := 2) (x' := (a3, 16, c3)) (hV := hV) (hget := rfl)) (hk := ?_)
    refine XO_reval 13 (.slice a3 16 c3) (hv := rfl) (hk := ?_)
    repeat (first | refine Zq ?_ | refine Zs ?_ | refine ZT ?_ | refine ZF ?_ | refine Zc ?_ | refine XO_gU (hk := ?_))
    refine XO_dv (dv_copyAt (E' := eI .u8) (i := 16) (s := 1) (o := 0) (b := ob) (c := 32) (m := 16) (m1 := 32 - 16) (a2 := a3) (xs := (b1 ++ b2) ++ List.replicate (32 - 16) 0) (ys := b3) (A := A3)
      (hx := by show some (Value.slice (subA (some ⟨ob, 0, none⟩) 16 32 1) (32 - 16) (32 - 16)) = _; rw [subA_lt (by decide)]) (hy := rfl) (hv := V3) (hn := by rw [h3]; rfl) (hm1 := by rw [List.length_append, List.length_replicate]; simp [h1, h2, h3])) (hk := ?_)
    rintro _ _ ⟨rfl, rfl⟩
    have e : ((b1 ++ b2) ++ List.replicate (32 - 16) 0).take 16 ++ (b3 ++ ((b1 ++ b2) ++ List.replicate (32 - 16) 0).drop (16 + b3.length)) = (b1 ++ (b2 ++ b3)) ++ List.replicate (32 - 32) 0 := by
      have := cut_zeros (p := (b1 ++ b2)) (q := b3) (r := 32 - 16) (by rw [h3]; decide)
      rw [show ((b1 ++ b2)).length = 16 from by simp [h1, h2, h3], h3] at this
      simpa [cutIn, h3] using this
    rw [e, h3]
    repeat (first | refine Zq ?_ | refine Zs ?_ | refine ZT ?_ | refine ZF ?_ | refine Zc ?_ | refine XO_gU (hk := ?_))
    exact X_round 3 (by decide) (by decide) (by (repeat (first | exact Env.sub_nil _ | refine Env.sub_cons rfl ?_))) (by ((try simp only [List.cons_append, List.nil_append]); repeat (first | exact ent_refl | refine ent_take (by repeat (first | exact Find.here | apply Find.there)) ?_ | refine ent_drop ?_)))
  obtain rfl : i = 3 := by omega
  repeat (first | refine Zq ?_ | refine Zs ?_ | refine ZT ?_ | refine ZF ?_ | refine Zc ?_ | refine XO_gU (hk := ?_))
  refine X_cond rfl (fun h => absurd h (by decide)) (fun _ => ?_)
  repeat (first | refine Zq ?_ | refine Zs ?_ | refine ZT ?_ | refine ZF ?_ | refine Zc ?_ | refine XO_gU (hk := ?_))
  refine XE_ret (.inl rfl) (tells_tmps rfl rfl) ⟨_, ⟨ob, rfl, rfl⟩, ?_⟩
  rw [show outJ b1 b2 b3 3 ++ List.replicate (32 - (lenJ 3).toNat) 0 = b1 ++ (b2 ++ b3) from by simp [outJ, lenJ]]
  ((try simp only [List.cons_append, List.nil_append]); repeat (first | exact ent_refl | refine ent_take (by repeat (first | exact Find.here | apply Find.there)) ?_ | refine ent_drop ?_))
end Go.Proofs.YtamecmklcnohjaaGreat.Sep
namespace Go.Proofs.YtamecmklcnohjaaGreat.Sep
open Go.RowKit
set_option linter.unusedSimpArgs false
set_option linter.unusedVariables false
set_option linter.unusedSectionVars false
/-! headers that are laid: what may come up in any order -/
section
variable {P : Program} {w0 : World} {n : Nat} {Q : Exit → Act → World → Prop} {ops : Array Oper} {k : List KI} {D : Pend} {vl : List Nat} {e : Env} {L R : List HP} {i d : Nat} {ty : TypeId} {pos : String} {aft : Array Edge} {v : Value}
/-- []byte of a literal: the same slice; nobody changes its array any more. -/
theorem dv_convSl {T el : TypeId} {x : Operand} {b m c : Nat} {bs : List Int} [hu : TU P T (.slice el)] [he : TU P el (.int .u8)] (hx : ev e x = some (.slice (some ⟨b, 0, none⟩) m c) := by rfl)
    (hf : Find L (Sl (eI .u8) (some ⟨b, 0, none⟩) c bs) R := by repeat (first | exact Find.here | apply Find.there)) : DV P w0 (.convert T T x) ty e L (fun v L' => v = .slice (some ⟨b, 0, none⟩) m c ∧ L' = Frz b bs :: R) := dv_of_run fun tm w pos aft h2 h3 => by
  have h3' := h3.find hf
  obtain ⟨H0, hA0, hle0⟩ := h3'.atom
  obtain ⟨hc, hsp, row, T', hrow, pre, post, hr, hp, hq⟩ := hA0
  simp only at hp hrow
  have hrw := hle0 _ _ hrow
  have hsh : w.shape? b = some (T', row.size) := by unfold World.shape?; rw [hrw]
  have hat : (w.freeze ⟨b, row.size, none⟩ 1).heap[b]? = some (.cells row T' (row.size, row.size + 1)) := by
    unfold World.freeze
    rw [if_neg (by decide)]
    simp only [Array.getElem?_modify, hrw, if_true, Option.map_some]
    rfl
  have hne : ∀ k, k ≠ b → (w.freeze ⟨b, row.size, none⟩ 1).heap[k]? = w.heap[k]? := fun k hk => by
    unfold World.freeze
    rw [if_neg (by decide)]
    simp only [Array.getElem?_modify, if_neg (Ne.symm hk)]
  refine ⟨.slice (some ⟨b, 0, none⟩) m c, w.freeze ⟨b, row.size, none⟩ 1, Frz b bs :: R, by simp [execOp, ev_sound h2 hx, convert, run_und hu.out, run_und he.out, markStringish, hsh], ⟨rfl, rfl⟩, ?_⟩
  refine Sat.turn1 (b := b) (o' := .cells row T' (row.size, row.size + 1)) h3' (fun H hH => ?_) rfl rfl rfl hat hne (fun H hH => ?_)
  · obtain ⟨_, _, row, T, hb, _⟩ := hH
    rw [hb]; simp
  · refine ⟨row, T', (row.size, row.size + 1), by simp, fun j v hj => ?_⟩
    have hpre : pre = [] := List.eq_nil_of_length_eq_zero hp
    have hlt : j < (flat (eI .u8) bs).length := (List.getElem?_eq_some_iff.1 hj).1
    rw [← Array.getElem?_toList, hr, hpre, List.nil_append, List.getElem?_append_left hlt]
    exact hj
theorem XD_cut5 {C : Cx} (Dn : Pend) (vn : List Nat) (en : Nat → Nat → Nat → Nat → Nat → Env) (Ln : Nat → Nat → Nat → Nat → Nat → List HP) (h1 : ∀ b1 b2 b3 b4 b5, XD C ops k Dn vn (en b1 b2 b3 b4 b5) (Ln b1 b2 b3 b4 b5))
    (h2 : (∀ b1 b2 b3 b4 b5, XD C ops k Dn vn (en b1 b2 b3 b4 b5) (Ln b1 b2 b3 b4 b5)) → XD C ops k D vl e L) : XD C ops k D vl e L := h2 h1
end
set_option maxHeartbeats 8000000
attribute [local irreducible] X XE XO XD XDi XDa PV RV DV pt base Spec Sl Mp Keeps Pgs Spc
end Go.Proofs.YtamecmklcnohjaaGreat.Sep
namespace Go.Proofs.YtamecmklcnohjaaGreat.Sep
open Go.RowKit
set_option linter.unusedSimpArgs false
set_option linter.unusedVariables false
/-! headers that are laid -/
set_option maxHeartbeats 8000000
attribute [local irreducible] X XE XO XD XDi XDa PV RV DV pt base Spec Sl Mp Keeps Pgs Spc Frz
theorem hwrite_spec (sb : Nat) (P : Int) (m : Mm) (page : Int) (h : Hd) (h1 : P ≤ 1048576) (hk : HdOk h) (hin : 0 ≤ page ∧ page < P) : Spec Tryz.prog 159 [.pointer (some ⟨sb, 0, none⟩), .int .i64 page, hdV h] [Spc sb P m]
    (fun v L => v = .int .i64 0 ∧ L = [Spc sb P (stM m (page * 4096) (hdB h))]) := by
  refine Spec.intro (IsEnt.out) Tryz.func159 rfl Tryz.ntmps159 (by simp) (fun w0 F => ?_)
  simp only [envOf, List.zipIdx, List.map, List.cons_append, List.nil_append, Nat.zero_add, Nat.reduceAdd]
  have h0 : 0 ≤ P := by omega
  have ha : hatI P page = page * 4096 := by unfold hatI; rw [if_pos hin]
  have hright := hright_spec h
  have hde : decide (HdOk h) = true := decide_eq_true hk
  rw [hde] at hright
  have hat := hat_spec sb P m page h0 h1
  rw [ha] at hat
  have hst : ∀ b31, Spec Tryz.prog 111 [.pointer (some ⟨sb, 0, none⟩), .int .u64 (page * 4096), .slice (some ⟨b31, 0, none⟩) 32 32] [Spc sb P m, Sl (eI .u8) (some ⟨b31, 0, none⟩) 32 (magicB ++ (bsOf (4 : Int).toNat [h.pages, h.kind] ++ bsOf (8 : Int).toNat [h.owner, h.next]))]
      (fun v L => v = .int .i64 0 ∧ L = [Spc sb P (stM m (page * 4096) (hdB h)), Sl (eI .u8) (some ⟨b31, 0, none⟩) 32 (hdB h)]) := fun b31 => by
    have e : magicB ++ (bsOf (4 : Int).toNat [h.pages, h.kind] ++ bsOf (8 : Int).toNat [h.owner, h.next]) = hdB h := by simp [bsOf, hdB]
    rw [e]
    have hB : Byt (hdB h) := by
      intro x hx
      simp only [hdB, List.mem_append] at hx
      rcases hx with hx | (hx | hx) | hx | hx
      · simp [magicB] at hx; omega
      all_goals exact leB_byt _ _ x hx
    have hs := Store_spec (Sl (eI .u8) (some ⟨b31, 0, none⟩) 32 (hdB h)) sb 32 (some ⟨b31, 0, none⟩) P m (page * 4096) (hdB h) Sl.view hB (by rw [hdB_len]; decide) (by rw [hdB_len]; decide) h0 h1 (by omega) (by omega)
    have hf : fitsI P (page * 4096) (hdB h).length 1048576 = 0 := by rw [hdB_len]; unfold fitsI; rw [if_pos (by omega), if_neg (by omega)]
    unfold storeV at hs
    rw [if_pos hf, hdB_len] at hs
    exact hs
  obtain ⟨k1, k2, k3, k4⟩ := hk
  unfold hdV at hright ⊢
  repeat (first | refine Zq ?_ | refine Zs ?_ | refine ZT ?_ | refine ZF ?_ | refine Zc ?_ | refine XO_gU (hk := ?_))
  refine XO_dv (dv_box (row := [.int .i64 h.pages, .int .i64 h.kind, .int .u64 h.owner, .int .u64 h.next])) (hk := ?_)
  rintro _ _ ⟨hb, rfl, rfl⟩
  repeat (first | refine Zq ?_ | refine Zs ?_ | refine ZT ?_ | refine ZF ?_ | refine Zc ?_ | refine XO_gU (hk := ?_))
  refine XO_call hright (hk := ?_)
  rintro _ _ ⟨rfl, rfl⟩
  repeat (first | refine Zq ?_ | refine Zs ?_ | refine ZT ?_ | refine ZF ?_ | refine Zc ?_ | refine XO_gU (hk := ?_))
  refine X_cond rfl (fun h => by cases h) (fun _ => ?_)
  repeat (first | refine Zq ?_ | refine Zs ?_ | refine ZT ?_ | refine ZF ?_ | refine Zc ?_ | refine XO_gU (hk := ?_))
  repeat (first | refine XD_pick (h := ?_) | refine Dq ?_ | refine Ds ?_ | refine XDi_gF (h := ?_) | refine XDi_gU (h := ?_) | refine X_draws (h := ?_))
  refine XD_cut5 [(0, .pointer (some ⟨sb, 0, none⟩), true)] [19, 18, 13, 12, 5, 4, 3, 17, 16, 15, 14, 11, 10, 9, 8, 7, 6, 2, 1, 0] (fun b14 b22 b23 b28 b29 => [(29, .slice (some ⟨b29, 0, none⟩) (bsOf (8 : Int).toNat [h.owner, h.next]).length (bsOf (8 : Int).toNat [h.owner, h.next]).length), (28, .slice (some ⟨b28, 0, none⟩) [h.owner, h.next].length [h.owner, h.next].length), (23, .slice (some ⟨b23, 0, none⟩) (bsOf (4 : Int).toNat [h.pages, h.kind]).length (bsOf (4 : Int).toNat [h.pages, h.kind]).length), (22, .slice (some ⟨b22, 0, none⟩) [h.pages, h.kind].length [h.pages, h.kind].length), (15, .slice (some ⟨b14, 0, none⟩) magicB.length magicB.length), (14, .slice (some ⟨b14, 0, none⟩) magicB.length magicB.length), (13, .int .u64 (page * 4096)), (27, .int .u64 h.next), (26, .pointer (some ⟨hb, 3, none⟩)), (25, .int .u64 h.owner), (24, .pointer (some ⟨hb, 2, none⟩)), (21, .int .u64 h.kind), (20, .int .i64 h.kind), (19, .pointer (some ⟨hb, 1, none⟩)), (18, .int .u64 h.pages), (17, .int .i64 h.pages), (16, .pointer (some ⟨hb, 0, none⟩)), (12, .int .i64 page), (11, .pointer (some ⟨sb, 0, none⟩)), (10, .pointer (some ⟨sb, 0, none⟩)), (9, .bool !true), (8, .bool true), (7, .agg #[.int .i64 h.pages, .int .i64 h.kind, .int .u64 h.owner, .int .u64 h.next]), (6, .int .i64 0), (5, .pointer (some ⟨hb, 0, none⟩)), (0, .pointer (some ⟨sb, 0, none⟩)), (1, .int .i64 page), (2, .agg #[.int .i64 h.pages, .int .i64 h.kind, .int .u64 h.owner, .int .u64 h.next])]) (fun b14 b22 b23 b28 b29 => Sl (eI .u8) (some ⟨b29, 0, none⟩) (bsOf (8 : Int).toNat [h.owner, h.next]).length (bsOf (8 : Int).toNat [h.owner, h.next]) :: Sl (eI .u64) (some ⟨b28, 0, none⟩) [h.owner, h.next].length [h.owner, h.next] :: Sl (eI .u8) (some ⟨b23, 0, none⟩) (bsOf (4 : Int).toNat [h.pages, h.kind]).length (bsOf (4 : Int).toNat [h.pages, h.kind]) :: Sl (eI .u64) (some ⟨b22, 0, none⟩) [h.pages, h.kind].length [h.pages, h.kind] :: Frz b14 magicB :: Spc sb P m :: pt hb (.cells [.int .i64 h.pages, .int .i64 h.kind, .int .u64 h.owner, .int .u64 h.next].toArray 267 (0, 0)) :: F) ?_ (fun s3_4_5_12_13_18_19 => ?_)
  · intro b14 b22 b23 b28 b29
    refine XD_one (h := ?_)
    refine XDa_dvA (dv_lit (E' := eSl) [(some ⟨b14, 0, none⟩, 8, 8), (some ⟨b23, 0, none⟩, 8, 8), (some ⟨b29, 0, none⟩, 16, 16)]) (hk := ?_)
    rintro _ _ ⟨b30, rfl, rfl⟩
    refine ⟨by (repeat (first | exact keeps_nil | exact keeps_fnil | refine keeps_skip (h := ?_) | refine keeps_takeQ (h := ?_))), ?_⟩
    refine XD_one (h := ?_)
    refine XDa_dvA (dv_call (join_spec _ (Frz b14 magicB) _ _ (some ⟨b30, 0, none⟩) (some ⟨b14, 0, none⟩) (some ⟨b23, 0, none⟩) (some ⟨b29, 0, none⟩) 3 8 8 16 magicB (bsOf (4 : Int).toNat [h.pages, h.kind]) (bsOf (8 : Int).toNat [h.owner, h.next]) Sl.view Frz.view Sl.view Sl.view rfl rfl rfl)) (hk := ?_)
    rintro _ _ ⟨_, ⟨b31, rfl, rfl⟩, rfl⟩
    refine ⟨by (repeat (first | exact keeps_nil | exact keeps_fnil | refine keeps_skip (h := ?_) | refine keeps_takeQ (h := ?_))), ?_⟩
    refine XD_one (h := ?_)
    refine XDa_dvA (dv_call (hst b31)) (hk := ?_)
    rintro _ _ ⟨_, ⟨rfl, rfl⟩, rfl⟩
    refine ⟨by (repeat (first | exact keeps_nil | exact keeps_fnil | refine keeps_skip (h := ?_) | refine keeps_takeQ (h := ?_))), ?_⟩
    repeat (first | refine XD_pick (h := ?_) | refine Dq ?_ | refine Ds ?_ | refine XDi_gF (h := ?_) | refine XDi_gU (h := ?_) | refine X_draws (h := ?_))
    (refine XD_one (h := ?_); refine XDa_dvA (dv_of_rv (rv_of_pv pv_assign)) (hk := ?_); rintro _ _ ⟨rfl, rfl⟩; refine ⟨by (repeat (first | exact keeps_nil | exact keeps_fnil | refine keeps_skip (h := ?_) | refine keeps_takeQ (h := ?_))), ?_⟩)
    (refine XD_end (h := ?_); repeat (first | refine Zq ?_ | refine Zs ?_ | refine ZT ?_ | refine ZF ?_ | refine Zc ?_ | refine XO_gU (hk := ?_)))
    refine XE_ret (.inl rfl) (tells_tmps rfl rfl) ⟨_, ⟨rfl, rfl⟩, by ((try simp only [List.cons_append, List.nil_append]); repeat (first | exact ent_refl | refine ent_take (by repeat (first | exact Find.here | apply Find.there)) ?_ | refine ent_drop ?_))⟩
  refine XD_cut5 [(0, .pointer (some ⟨sb, 0, none⟩), true)] [18, 13, 12, 5, 4, 3, 17, 16, 15, 14, 11, 10, 9, 8, 7, 6, 2, 1, 0] (fun b14 b22 b23 b28 b29 => [(28, .slice (some ⟨b28, 0, none⟩) [h.owner, h.next].length [h.owner, h.next].length), (23, .slice (some ⟨b23, 0, none⟩) (bsOf (4 : Int).toNat [h.pages, h.kind]).length (bsOf (4 : Int).toNat [h.pages, h.kind]).length), (22, .slice (some ⟨b22, 0, none⟩) [h.pages, h.kind].length [h.pages, h.kind].length), (15, .slice (some ⟨b14, 0, none⟩) magicB.length magicB.length), (14, .slice (some ⟨b14, 0, none⟩) magicB.length magicB.length), (13, .int .u64 (page * 4096)), (27, .int .u64 h.next), (26, .pointer (some ⟨hb, 3, none⟩)), (25, .int .u64 h.owner), (24, .pointer (some ⟨hb, 2, none⟩)), (21, .int .u64 h.kind), (20, .int .i64 h.kind), (19, .pointer (some ⟨hb, 1, none⟩)), (18, .int .u64 h.pages), (17, .int .i64 h.pages), (16, .pointer (some ⟨hb, 0, none⟩)), (12, .int .i64 page), (11, .pointer (some ⟨sb, 0, none⟩)), (10, .pointer (some ⟨sb, 0, none⟩)), (9, .bool !true), (8, .bool true), (7, .agg #[.int .i64 h.pages, .int .i64 h.kind, .int .u64 h.owner, .int .u64 h.next]), (6, .int .i64 0), (5, .pointer (some ⟨hb, 0, none⟩)), (0, .pointer (some ⟨sb, 0, none⟩)), (1, .int .i64 page), (2, .agg #[.int .i64 h.pages, .int .i64 h.kind, .int .u64 h.owner, .int .u64 h.next])]) (fun b14 b22 b23 b28 b29 => Sl (eI .u64) (some ⟨b28, 0, none⟩) [h.owner, h.next].length [h.owner, h.next] :: Sl (eI .u8) (some ⟨b23, 0, none⟩) (bsOf (4 : Int).toNat [h.pages, h.kind]).length (bsOf (4 : Int).toNat [h.pages, h.kind]) :: Sl (eI .u64) (some ⟨b22, 0, none⟩) [h.pages, h.kind].length [h.pages, h.kind] :: Frz b14 magicB :: Spc sb P m :: pt hb (.cells [.int .i64 h.pages, .int .i64 h.kind, .int .u64 h.owner, .int .u64 h.next].toArray 267 (0, 0)) :: F) ?_ (fun s3_4_5_12_13_18 => ?_)
  · intro b14 b22 b23 b28 b29
    refine XD_one (h := ?_)
    · refine XDa_dvA (dv_call (wbytes_spec _ _ _ [h.owner, h.next] 8 (by omega) (by simp) Sl.view)) (hk := ?_)
      rintro _ _ ⟨_, ⟨b29, rfl, rfl⟩, rfl⟩
      refine ⟨by (repeat (first | exact keeps_nil | exact keeps_fnil | refine keeps_skip (h := ?_) | refine keeps_takeQ (h := ?_))), ?_⟩
      exact XD_perm2 (s3_4_5_12_13_18_19 b14 b22 b23 b28 b29)
  refine XD_cut5 [(0, .pointer (some ⟨sb, 0, none⟩), true)] [19, 18, 13, 12, 4, 3, 17, 16, 15, 14, 11, 10, 9, 8, 7, 6, 2, 1, 0] (fun b14 b22 b23 b28 b29 => [(29, .slice (some ⟨b29, 0, none⟩) (bsOf (8 : Int).toNat [h.owner, h.next]).length (bsOf (8 : Int).toNat [h.owner, h.next]).length), (28, .slice (some ⟨b28, 0, none⟩) [h.owner, h.next].length [h.owner, h.next].length), (23, .slice (some ⟨b23, 0, none⟩) (bsOf (4 : Int).toNat [h.pages, h.kind]).length (bsOf (4 : Int).toNat [h.pages, h.kind]).length), (22, .slice (some ⟨b22, 0, none⟩) [h.pages, h.kind].length [h.pages, h.kind].length), (14, .slice (some ⟨b14, 0, none⟩) magicB.length magicB.length), (13, .int .u64 (page * 4096)), (27, .int .u64 h.next), (26, .pointer (some ⟨hb, 3, none⟩)), (25, .int .u64 h.owner), (24, .pointer (some ⟨hb, 2, none⟩)), (21, .int .u64 h.kind), (20, .int .i64 h.kind), (19, .pointer (some ⟨hb, 1, none⟩)), (18, .int .u64 h.pages), (17, .int .i64 h.pages), (16, .pointer (some ⟨hb, 0, none⟩)), (12, .int .i64 page), (11, .pointer (some ⟨sb, 0, none⟩)), (10, .pointer (some ⟨sb, 0, none⟩)), (9, .bool !true), (8, .bool true), (7, .agg #[.int .i64 h.pages, .int .i64 h.kind, .int .u64 h.owner, .int .u64 h.next]), (6, .int .i64 0), (5, .pointer (some ⟨hb, 0, none⟩)), (0, .pointer (some ⟨sb, 0, none⟩)), (1, .int .i64 page), (2, .agg #[.int .i64 h.pages, .int .i64 h.kind, .int .u64 h.owner, .int .u64 h.next])]) (fun b14 b22 b23 b28 b29 => Sl (eI .u8) (some ⟨b29, 0, none⟩) (bsOf (8 : Int).toNat [h.owner, h.next]).length (bsOf (8 : Int).toNat [h.owner, h.next]) :: Sl (eI .u64) (some ⟨b28, 0, none⟩) [h.owner, h.next].length [h.owner, h.next] :: Sl (eI .u8) (some ⟨b23, 0, none⟩) (bsOf (4 : Int).toNat [h.pages, h.kind]).length (bsOf (4 : Int).toNat [h.pages, h.kind]) :: Sl (eI .u64) (some ⟨b22, 0, none⟩) [h.pages, h.kind].length [h.pages, h.kind] :: Sl (eI .u8) (some ⟨b14, 0, none⟩) magicB.length magicB :: Spc sb P m :: pt hb (.cells [.int .i64 h.pages, .int .i64 h.kind, .int .u64 h.owner, .int .u64 h.next].toArray 267 (0, 0)) :: F) ?_ (fun s3_4_12_13_18_19 => ?_)
  · intro b14 b22 b23 b28 b29
    refine XD_one (h := ?_)
    · refine XDa_dvA (dv_convSl) (hk := ?_)
      rintro _ _ ⟨rfl, rfl⟩
      refine ⟨by (repeat (first | exact keeps_nil | exact keeps_fnil | refine keeps_skip (h := ?_) | refine keeps_takeQ (h := ?_))), ?_⟩
      exact XD_perm2 (s3_4_5_12_13_18_19 b14 b22 b23 b28 b29)
  refine XD_cut5 [(17, .int .u64 h.next, false), (16, .pointer (some ⟨hb, 3, none⟩), true), (15, .int .u64 h.owner, false), (14, .pointer (some ⟨hb, 2, none⟩), true), (0, .pointer (some ⟨sb, 0, none⟩), true)] [13, 12, 5, 4, 3, 17, 16, 15, 14, 11, 10, 9, 8, 7, 6, 2, 1, 0] (fun b14 b22 b23 b28 b29 => [(23, .slice (some ⟨b23, 0, none⟩) (bsOf (4 : Int).toNat [h.pages, h.kind]).length (bsOf (4 : Int).toNat [h.pages, h.kind]).length), (22, .slice (some ⟨b22, 0, none⟩) [h.pages, h.kind].length [h.pages, h.kind].length), (15, .slice (some ⟨b14, 0, none⟩) magicB.length magicB.length), (14, .slice (some ⟨b14, 0, none⟩) magicB.length magicB.length), (13, .int .u64 (page * 4096)), (27, .int .u64 h.next), (26, .pointer (some ⟨hb, 3, none⟩)), (25, .int .u64 h.owner), (24, .pointer (some ⟨hb, 2, none⟩)), (21, .int .u64 h.kind), (20, .int .i64 h.kind), (19, .pointer (some ⟨hb, 1, none⟩)), (18, .int .u64 h.pages), (17, .int .i64 h.pages), (16, .pointer (some ⟨hb, 0, none⟩)), (12, .int .i64 page), (11, .pointer (some ⟨sb, 0, none⟩)), (10, .pointer (some ⟨sb, 0, none⟩)), (9, .bool !true), (8, .bool true), (7, .agg #[.int .i64 h.pages, .int .i64 h.kind, .int .u64 h.owner, .int .u64 h.next]), (6, .int .i64 0), (5, .pointer (some ⟨hb, 0, none⟩)), (0, .pointer (some ⟨sb, 0, none⟩)), (1, .int .i64 page), (2, .agg #[.int .i64 h.pages, .int .i64 h.kind, .int .u64 h.owner, .int .u64 h.next])]) (fun b14 b22 b23 b28 b29 => Sl (eI .u8) (some ⟨b23, 0, none⟩) (bsOf (4 : Int).toNat [h.pages, h.kind]).length (bsOf (4 : Int).toNat [h.pages, h.kind]) :: Sl (eI .u64) (some ⟨b22, 0, none⟩) [h.pages, h.kind].length [h.pages, h.kind] :: Frz b14 magicB :: Spc sb P m :: pt hb (.cells [.int .i64 h.pages, .int .i64 h.kind, .int .u64 h.owner, .int .u64 h.next].toArray 267 (0, 0)) :: F) ?_ (fun s3_4_5_12_13 => ?_)
  · intro b14 b22 b23 b28 b29
    refine XD_one (h := ?_)
    · refine XDa_dvA (dv_lit (E' := eI .u64) [h.owner, h.next]) (hk := ?_)
      rintro _ _ ⟨b28, rfl, rfl⟩
      refine ⟨by (repeat (first | exact keeps_nil | exact keeps_fnil | refine keeps_skip (h := ?_) | refine keeps_takeQ (h := ?_))), ?_⟩
      exact XD_perm2 (s3_4_5_12_13_18 b14 b22 b23 b28 b29)
  refine XD_cut5 [(0, .pointer (some ⟨sb, 0, none⟩), true)] [18, 12, 5, 4, 3, 17, 16, 15, 14, 11, 10, 9, 8, 7, 6, 2, 1, 0] (fun b14 b22 b23 b28 b29 => [(28, .slice (some ⟨b28, 0, none⟩) [h.owner, h.next].length [h.owner, h.next].length), (22, .slice (some ⟨b22, 0, none⟩) [h.pages, h.kind].length [h.pages, h.kind].length), (15, .slice (some ⟨b14, 0, none⟩) magicB.length magicB.length), (14, .slice (some ⟨b14, 0, none⟩) magicB.length magicB.length), (13, .int .u64 (page * 4096)), (27, .int .u64 h.next), (26, .pointer (some ⟨hb, 3, none⟩)), (25, .int .u64 h.owner), (24, .pointer (some ⟨hb, 2, none⟩)), (21, .int .u64 h.kind), (20, .int .i64 h.kind), (19, .pointer (some ⟨hb, 1, none⟩)), (18, .int .u64 h.pages), (17, .int .i64 h.pages), (16, .pointer (some ⟨hb, 0, none⟩)), (12, .int .i64 page), (11, .pointer (some ⟨sb, 0, none⟩)), (10, .pointer (some ⟨sb, 0, none⟩)), (9, .bool !true), (8, .bool true), (7, .agg #[.int .i64 h.pages, .int .i64 h.kind, .int .u64 h.owner, .int .u64 h.next]), (6, .int .i64 0), (5, .pointer (some ⟨hb, 0, none⟩)), (0, .pointer (some ⟨sb, 0, none⟩)), (1, .int .i64 page), (2, .agg #[.int .i64 h.pages, .int .i64 h.kind, .int .u64 h.owner, .int .u64 h.next])]) (fun b14 b22 b23 b28 b29 => Sl (eI .u64) (some ⟨b28, 0, none⟩) [h.owner, h.next].length [h.owner, h.next] :: Sl (eI .u64) (some ⟨b22, 0, none⟩) [h.pages, h.kind].length [h.pages, h.kind] :: Frz b14 magicB :: Spc sb P m :: pt hb (.cells [.int .i64 h.pages, .int .i64 h.kind, .int .u64 h.owner, .int .u64 h.next].toArray 267 (0, 0)) :: F) ?_ (fun s3_4_5_12_18 => ?_)
  · intro b14 b22 b23 b28 b29
    refine XD_one (h := ?_)
    · refine XDa_dvA (dv_call (wbytes_spec _ _ _ [h.pages, h.kind] 4 (by omega) (by simp) Sl.view)) (hk := ?_)
      rintro _ _ ⟨_, ⟨b23, rfl, rfl⟩, rfl⟩
      refine ⟨by (repeat (first | exact keeps_nil | exact keeps_fnil | refine keeps_skip (h := ?_) | refine keeps_takeQ (h := ?_))), ?_⟩
      exact XD_perm2 (s3_4_5_12_13_18 b14 b22 b23 b28 b29)
  refine XD_cut5 [(0, .pointer (some ⟨sb, 0, none⟩), true)] [18, 13, 12, 4, 3, 17, 16, 15, 14, 11, 10, 9, 8, 7, 6, 2, 1, 0] (fun b14 b22 b23 b28 b29 => [(28, .slice (some ⟨b28, 0, none⟩) [h.owner, h.next].length [h.owner, h.next].length), (23, .slice (some ⟨b23, 0, none⟩) (bsOf (4 : Int).toNat [h.pages, h.kind]).length (bsOf (4 : Int).toNat [h.pages, h.kind]).length), (22, .slice (some ⟨b22, 0, none⟩) [h.pages, h.kind].length [h.pages, h.kind].length), (14, .slice (some ⟨b14, 0, none⟩) magicB.length magicB.length), (13, .int .u64 (page * 4096)), (27, .int .u64 h.next), (26, .pointer (some ⟨hb, 3, none⟩)), (25, .int .u64 h.owner), (24, .pointer (some ⟨hb, 2, none⟩)), (21, .int .u64 h.kind), (20, .int .i64 h.kind), (19, .pointer (some ⟨hb, 1, none⟩)), (18, .int .u64 h.pages), (17, .int .i64 h.pages), (16, .pointer (some ⟨hb, 0, none⟩)), (12, .int .i64 page), (11, .pointer (some ⟨sb, 0, none⟩)), (10, .pointer (some ⟨sb, 0, none⟩)), (9, .bool !true), (8, .bool true), (7, .agg #[.int .i64 h.pages, .int .i64 h.kind, .int .u64 h.owner, .int .u64 h.next]), (6, .int .i64 0), (5, .pointer (some ⟨hb, 0, none⟩)), (0, .pointer (some ⟨sb, 0, none⟩)), (1, .int .i64 page), (2, .agg #[.int .i64 h.pages, .int .i64 h.kind, .int .u64 h.owner, .int .u64 h.next])]) (fun b14 b22 b23 b28 b29 => Sl (eI .u64) (some ⟨b28, 0, none⟩) [h.owner, h.next].length [h.owner, h.next] :: Sl (eI .u8) (some ⟨b23, 0, none⟩) (bsOf (4 : Int).toNat [h.pages, h.kind]).length (bsOf (4 : Int).toNat [h.pages, h.kind]) :: Sl (eI .u64) (some ⟨b22, 0, none⟩) [h.pages, h.kind].length [h.pages, h.kind] :: Sl (eI .u8) (some ⟨b14, 0, none⟩) magicB.length magicB :: Spc sb P m :: pt hb (.cells [.int .i64 h.pages, .int .i64 h.kind, .int .u64 h.owner, .int .u64 h.next].toArray 267 (0, 0)) :: F) ?_ (fun s3_4_12_13_18 => ?_)
  · intro b14 b22 b23 b28 b29
    refine XD_two (h := ?_) (h' := ?_)
    · refine XDa_dvA (dv_convSl) (hk := ?_)
      rintro _ _ ⟨rfl, rfl⟩
      refine ⟨by (repeat (first | exact keeps_nil | exact keeps_fnil | refine keeps_skip (h := ?_) | refine keeps_takeQ (h := ?_))), ?_⟩
      exact XD_perm2 (s3_4_5_12_13_18 b14 b22 b23 b28 b29)
    · refine XDa_dvA (dv_call (wbytes_spec _ _ _ [h.owner, h.next] 8 (by omega) (by simp) Sl.view)) (hk := ?_)
      rintro _ _ ⟨_, ⟨b29, rfl, rfl⟩, rfl⟩
      refine ⟨by (repeat (first | exact keeps_nil | exact keeps_fnil | refine keeps_skip (h := ?_) | refine keeps_takeQ (h := ?_))), ?_⟩
      exact XD_perm2 (s3_4_12_13_18_19 b14 b22 b23 b28 b29)
  refine XD_cut5 [(0, .pointer (some ⟨sb, 0, none⟩), true)] [19, 18, 13, 12, 3, 17, 16, 15, 14, 11, 10, 9, 8, 7, 6, 2, 1, 0] (fun b14 b22 b23 b28 b29 => [(29, .slice (some ⟨b29, 0, none⟩) (bsOf (8 : Int).toNat [h.owner, h.next]).length (bsOf (8 : Int).toNat [h.owner, h.next]).length), (28, .slice (some ⟨b28, 0, none⟩) [h.owner, h.next].length [h.owner, h.next].length), (23, .slice (some ⟨b23, 0, none⟩) (bsOf (4 : Int).toNat [h.pages, h.kind]).length (bsOf (4 : Int).toNat [h.pages, h.kind]).length), (22, .slice (some ⟨b22, 0, none⟩) [h.pages, h.kind].length [h.pages, h.kind].length), (13, .int .u64 (page * 4096)), (27, .int .u64 h.next), (26, .pointer (some ⟨hb, 3, none⟩)), (25, .int .u64 h.owner), (24, .pointer (some ⟨hb, 2, none⟩)), (21, .int .u64 h.kind), (20, .int .i64 h.kind), (19, .pointer (some ⟨hb, 1, none⟩)), (18, .int .u64 h.pages), (17, .int .i64 h.pages), (16, .pointer (some ⟨hb, 0, none⟩)), (12, .int .i64 page), (11, .pointer (some ⟨sb, 0, none⟩)), (10, .pointer (some ⟨sb, 0, none⟩)), (9, .bool !true), (8, .bool true), (7, .agg #[.int .i64 h.pages, .int .i64 h.kind, .int .u64 h.owner, .int .u64 h.next]), (6, .int .i64 0), (5, .pointer (some ⟨hb, 0, none⟩)), (0, .pointer (some ⟨sb, 0, none⟩)), (1, .int .i64 page), (2, .agg #[.int .i64 h.pages, .int .i64 h.kind, .int .u64 h.owner, .int .u64 h.next])]) (fun b14 b22 b23 b28 b29 => Sl (eI .u8) (some ⟨b29, 0, none⟩) (bsOf (8 : Int).toNat [h.owner, h.next]).length (bsOf (8 : Int).toNat [h.owner, h.next]) :: Sl (eI .u64) (some ⟨b28, 0, none⟩) [h.owner, h.next].length [h.owner, h.next] :: Sl (eI .u8) (some ⟨b23, 0, none⟩) (bsOf (4 : Int).toNat [h.pages, h.kind]).length (bsOf (4 : Int).toNat [h.pages, h.kind]) :: Sl (eI .u64) (some ⟨b22, 0, none⟩) [h.pages, h.kind].length [h.pages, h.kind] :: Spc sb P m :: pt hb (.cells [.int .i64 h.pages, .int .i64 h.kind, .int .u64 h.owner, .int .u64 h.next].toArray 267 (0, 0)) :: F) ?_ (fun s3_12_13_18_19 => ?_)
  · intro b14 b22 b23 b28 b29
    refine XD_one (h := ?_)
    · refine XDa_dvA (dv_lit (E' := eI .u8) magicB) (hk := ?_)
      rintro _ _ ⟨b14, rfl, rfl⟩
      refine ⟨by (repeat (first | exact keeps_nil | exact keeps_fnil | refine keeps_skip (h := ?_) | refine keeps_takeQ (h := ?_))), ?_⟩
      exact XD_perm2 (s3_4_12_13_18_19 b14 b22 b23 b28 b29)
  refine XD_cut5 [(17, .int .u64 h.next, false), (16, .pointer (some ⟨hb, 3, none⟩), true), (15, .int .u64 h.owner, false), (14, .pointer (some ⟨hb, 2, none⟩), true), (0, .pointer (some ⟨sb, 0, none⟩), true)] [12, 5, 4, 3, 17, 16, 15, 14, 11, 10, 9, 8, 7, 6, 2, 1, 0] (fun b14 b22 b23 b28 b29 => [(22, .slice (some ⟨b22, 0, none⟩) [h.pages, h.kind].length [h.pages, h.kind].length), (15, .slice (some ⟨b14, 0, none⟩) magicB.length magicB.length), (14, .slice (some ⟨b14, 0, none⟩) magicB.length magicB.length), (13, .int .u64 (page * 4096)), (27, .int .u64 h.next), (26, .pointer (some ⟨hb, 3, none⟩)), (25, .int .u64 h.owner), (24, .pointer (some ⟨hb, 2, none⟩)), (21, .int .u64 h.kind), (20, .int .i64 h.kind), (19, .pointer (some ⟨hb, 1, none⟩)), (18, .int .u64 h.pages), (17, .int .i64 h.pages), (16, .pointer (some ⟨hb, 0, none⟩)), (12, .int .i64 page), (11, .pointer (some ⟨sb, 0, none⟩)), (10, .pointer (some ⟨sb, 0, none⟩)), (9, .bool !true), (8, .bool true), (7, .agg #[.int .i64 h.pages, .int .i64 h.kind, .int .u64 h.owner, .int .u64 h.next]), (6, .int .i64 0), (5, .pointer (some ⟨hb, 0, none⟩)), (0, .pointer (some ⟨sb, 0, none⟩)), (1, .int .i64 page), (2, .agg #[.int .i64 h.pages, .int .i64 h.kind, .int .u64 h.owner, .int .u64 h.next])]) (fun b14 b22 b23 b28 b29 => Sl (eI .u64) (some ⟨b22, 0, none⟩) [h.pages, h.kind].length [h.pages, h.kind] :: Frz b14 magicB :: Spc sb P m :: pt hb (.cells [.int .i64 h.pages, .int .i64 h.kind, .int .u64 h.owner, .int .u64 h.next].toArray 267 (0, 0)) :: F) ?_ (fun s3_4_5_12 => ?_)
  · intro b14 b22 b23 b28 b29
    refine XD_two (h := ?_) (h' := ?_)
    · refine XDa_dvA (dv_call (wbytes_spec _ _ _ [h.pages, h.kind] 4 (by omega) (by simp) Sl.view)) (hk := ?_)
      rintro _ _ ⟨_, ⟨b23, rfl, rfl⟩, rfl⟩
      refine ⟨by (repeat (first | exact keeps_nil | exact keeps_fnil | refine keeps_skip (h := ?_) | refine keeps_takeQ (h := ?_))), ?_⟩
      exact XD_perm2 (s3_4_5_12_13 b14 b22 b23 b28 b29)
    · refine XDa_dvA (dv_lit (E' := eI .u64) [h.owner, h.next]) (hk := ?_)
      rintro _ _ ⟨b28, rfl, rfl⟩
      refine ⟨by (repeat (first | exact keeps_nil | exact keeps_fnil | refine keeps_skip (h := ?_) | refine keeps_takeQ (h := ?_))), ?_⟩
      exact XD_perm2 (s3_4_5_12_18 b14 b22 b23 b28 b29)
  refine XD_cut5 [(11, .int .u64 h.kind, true), (10, .int .i64 h.kind, false), (9, .pointer (some ⟨hb, 1, none⟩), true), (8, .int .u64 h.pages, true), (7, .int .i64 h.pages, false), (6, .pointer (some ⟨hb, 0, none⟩), true), (0, .pointer (some ⟨sb, 0, none⟩), true)] [18, 5, 4, 3, 17, 16, 15, 14, 11, 10, 9, 8, 7, 6, 2, 1, 0] (fun b14 b22 b23 b28 b29 => [(28, .slice (some ⟨b28, 0, none⟩) [h.owner, h.next].length [h.owner, h.next].length), (15, .slice (some ⟨b14, 0, none⟩) magicB.length magicB.length), (14, .slice (some ⟨b14, 0, none⟩) magicB.length magicB.length), (13, .int .u64 (page * 4096)), (27, .int .u64 h.next), (26, .pointer (some ⟨hb, 3, none⟩)), (25, .int .u64 h.owner), (24, .pointer (some ⟨hb, 2, none⟩)), (21, .int .u64 h.kind), (20, .int .i64 h.kind), (19, .pointer (some ⟨hb, 1, none⟩)), (18, .int .u64 h.pages), (17, .int .i64 h.pages), (16, .pointer (some ⟨hb, 0, none⟩)), (12, .int .i64 page), (11, .pointer (some ⟨sb, 0, none⟩)), (10, .pointer (some ⟨sb, 0, none⟩)), (9, .bool !true), (8, .bool true), (7, .agg #[.int .i64 h.pages, .int .i64 h.kind, .int .u64 h.owner, .int .u64 h.next]), (6, .int .i64 0), (5, .pointer (some ⟨hb, 0, none⟩)), (0, .pointer (some ⟨sb, 0, none⟩)), (1, .int .i64 page), (2, .agg #[.int .i64 h.pages, .int .i64 h.kind, .int .u64 h.owner, .int .u64 h.next])]) (fun b14 b22 b23 b28 b29 => Sl (eI .u64) (some ⟨b28, 0, none⟩) [h.owner, h.next].length [h.owner, h.next] :: Frz b14 magicB :: Spc sb P m :: pt hb (.cells [.int .i64 h.pages, .int .i64 h.kind, .int .u64 h.owner, .int .u64 h.next].toArray 267 (0, 0)) :: F) ?_ (fun s3_4_5_18 => ?_)
  · intro b14 b22 b23 b28 b29
    refine XD_one (h := ?_)
    · refine XDa_dvA (dv_lit (E' := eI .u64) [h.pages, h.kind]) (hk := ?_)
      rintro _ _ ⟨b22, rfl, rfl⟩
      refine ⟨by (repeat (first | exact keeps_nil | exact keeps_fnil | refine keeps_skip (h := ?_) | refine keeps_takeQ (h := ?_))), ?_⟩
      exact XD_perm2 (s3_4_5_12_18 b14 b22 b23 b28 b29)
  refine XD_cut5 [(17, .int .u64 h.next, false), (16, .pointer (some ⟨hb, 3, none⟩), true), (15, .int .u64 h.owner, false), (14, .pointer (some ⟨hb, 2, none⟩), true), (0, .pointer (some ⟨sb, 0, none⟩), true)] [13, 12, 4, 3, 17, 16, 15, 14, 11, 10, 9, 8, 7, 6, 2, 1, 0] (fun b14 b22 b23 b28 b29 => [(23, .slice (some ⟨b23, 0, none⟩) (bsOf (4 : Int).toNat [h.pages, h.kind]).length (bsOf (4 : Int).toNat [h.pages, h.kind]).length), (22, .slice (some ⟨b22, 0, none⟩) [h.pages, h.kind].length [h.pages, h.kind].length), (14, .slice (some ⟨b14, 0, none⟩) magicB.length magicB.length), (13, .int .u64 (page * 4096)), (27, .int .u64 h.next), (26, .pointer (some ⟨hb, 3, none⟩)), (25, .int .u64 h.owner), (24, .pointer (some ⟨hb, 2, none⟩)), (21, .int .u64 h.kind), (20, .int .i64 h.kind), (19, .pointer (some ⟨hb, 1, none⟩)), (18, .int .u64 h.pages), (17, .int .i64 h.pages), (16, .pointer (some ⟨hb, 0, none⟩)), (12, .int .i64 page), (11, .pointer (some ⟨sb, 0, none⟩)), (10, .pointer (some ⟨sb, 0, none⟩)), (9, .bool !true), (8, .bool true), (7, .agg #[.int .i64 h.pages, .int .i64 h.kind, .int .u64 h.owner, .int .u64 h.next]), (6, .int .i64 0), (5, .pointer (some ⟨hb, 0, none⟩)), (0, .pointer (some ⟨sb, 0, none⟩)), (1, .int .i64 page), (2, .agg #[.int .i64 h.pages, .int .i64 h.kind, .int .u64 h.owner, .int .u64 h.next])]) (fun b14 b22 b23 b28 b29 => Sl (eI .u8) (some ⟨b23, 0, none⟩) (bsOf (4 : Int).toNat [h.pages, h.kind]).length (bsOf (4 : Int).toNat [h.pages, h.kind]) :: Sl (eI .u64) (some ⟨b22, 0, none⟩) [h.pages, h.kind].length [h.pages, h.kind] :: Sl (eI .u8) (some ⟨b14, 0, none⟩) magicB.length magicB :: Spc sb P m :: pt hb (.cells [.int .i64 h.pages, .int .i64 h.kind, .int .u64 h.owner, .int .u64 h.next].toArray 267 (0, 0)) :: F) ?_ (fun s3_4_12_13 => ?_)
  · intro b14 b22 b23 b28 b29
    refine XD_two (h := ?_) (h' := ?_)
    · refine XDa_dvA (dv_convSl) (hk := ?_)
      rintro _ _ ⟨rfl, rfl⟩
      refine ⟨by (repeat (first | exact keeps_nil | exact keeps_fnil | refine keeps_skip (h := ?_) | refine keeps_takeQ (h := ?_))), ?_⟩
      exact XD_perm2 (s3_4_5_12_13 b14 b22 b23 b28 b29)
    · refine XDa_dvA (dv_lit (E' := eI .u64) [h.owner, h.next]) (hk := ?_)
      rintro _ _ ⟨b28, rfl, rfl⟩
      refine ⟨by (repeat (first | exact keeps_nil | exact keeps_fnil | refine keeps_skip (h := ?_) | refine keeps_takeQ (h := ?_))), ?_⟩
      exact XD_perm2 (s3_4_12_13_18 b14 b22 b23 b28 b29)
  refine XD_cut5 [(0, .pointer (some ⟨sb, 0, none⟩), true)] [18, 12, 4, 3, 17, 16, 15, 14, 11, 10, 9, 8, 7, 6, 2, 1, 0] (fun b14 b22 b23 b28 b29 => [(28, .slice (some ⟨b28, 0, none⟩) [h.owner, h.next].length [h.owner, h.next].length), (22, .slice (some ⟨b22, 0, none⟩) [h.pages, h.kind].length [h.pages, h.kind].length), (14, .slice (some ⟨b14, 0, none⟩) magicB.length magicB.length), (13, .int .u64 (page * 4096)), (27, .int .u64 h.next), (26, .pointer (some ⟨hb, 3, none⟩)), (25, .int .u64 h.owner), (24, .pointer (some ⟨hb, 2, none⟩)), (21, .int .u64 h.kind), (20, .int .i64 h.kind), (19, .pointer (some ⟨hb, 1, none⟩)), (18, .int .u64 h.pages), (17, .int .i64 h.pages), (16, .pointer (some ⟨hb, 0, none⟩)), (12, .int .i64 page), (11, .pointer (some ⟨sb, 0, none⟩)), (10, .pointer (some ⟨sb, 0, none⟩)), (9, .bool !true), (8, .bool true), (7, .agg #[.int .i64 h.pages, .int .i64 h.kind, .int .u64 h.owner, .int .u64 h.next]), (6, .int .i64 0), (5, .pointer (some ⟨hb, 0, none⟩)), (0, .pointer (some ⟨sb, 0, none⟩)), (1, .int .i64 page), (2, .agg #[.int .i64 h.pages, .int .i64 h.kind, .int .u64 h.owner, .int .u64 h.next])]) (fun b14 b22 b23 b28 b29 => Sl (eI .u64) (some ⟨b28, 0, none⟩) [h.owner, h.next].length [h.owner, h.next] :: Sl (eI .u64) (some ⟨b22, 0, none⟩) [h.pages, h.kind].length [h.pages, h.kind] :: Sl (eI .u8) (some ⟨b14, 0, none⟩) magicB.length magicB :: Spc sb P m :: pt hb (.cells [.int .i64 h.pages, .int .i64 h.kind, .int .u64 h.owner, .int .u64 h.next].toArray 267 (0, 0)) :: F) ?_ (fun s3_4_12_18 => ?_)
  · intro b14 b22 b23 b28 b29
    refine XD_two (h := ?_) (h' := ?_)
    · refine XDa_dvA (dv_convSl) (hk := ?_)
      rintro _ _ ⟨rfl, rfl⟩
      refine ⟨by (repeat (first | exact keeps_nil | exact keeps_fnil | refine keeps_skip (h := ?_) | refine keeps_takeQ (h := ?_))), ?_⟩
      exact XD_perm2 (s3_4_5_12_18 b14 b22 b23 b28 b29)
    · refine XDa_dvA (dv_call (wbytes_spec _ _ _ [h.pages, h.kind] 4 (by omega) (by simp) Sl.view)) (hk := ?_)
      rintro _ _ ⟨_, ⟨b23, rfl, rfl⟩, rfl⟩
      refine ⟨by (repeat (first | exact keeps_nil | exact keeps_fnil | refine keeps_skip (h := ?_) | refine keeps_takeQ (h := ?_))), ?_⟩
      exact XD_perm2 (s3_4_12_13_18 b14 b22 b23 b28 b29)
  refine XD_cut5 [(0, .pointer (some ⟨sb, 0, none⟩), true)] [18, 13, 12, 3, 17, 16, 15, 14, 11, 10, 9, 8, 7, 6, 2, 1, 0] (fun b14 b22 b23 b28 b29 => [(28, .slice (some ⟨b28, 0, none⟩) [h.owner, h.next].length [h.owner, h.next].length), (23, .slice (some ⟨b23, 0, none⟩) (bsOf (4 : Int).toNat [h.pages, h.kind]).length (bsOf (4 : Int).toNat [h.pages, h.kind]).length), (22, .slice (some ⟨b22, 0, none⟩) [h.pages, h.kind].length [h.pages, h.kind].length), (13, .int .u64 (page * 4096)), (27, .int .u64 h.next), (26, .pointer (some ⟨hb, 3, none⟩)), (25, .int .u64 h.owner), (24, .pointer (some ⟨hb, 2, none⟩)), (21, .int .u64 h.kind), (20, .int .i64 h.kind), (19, .pointer (some ⟨hb, 1, none⟩)), (18, .int .u64 h.pages), (17, .int .i64 h.pages), (16, .pointer (some ⟨hb, 0, none⟩)), (12, .int .i64 page), (11, .pointer (some ⟨sb, 0, none⟩)), (10, .pointer (some ⟨sb, 0, none⟩)), (9, .bool !true), (8, .bool true), (7, .agg #[.int .i64 h.pages, .int .i64 h.kind, .int .u64 h.owner, .int .u64 h.next]), (6, .int .i64 0), (5, .pointer (some ⟨hb, 0, none⟩)), (0, .pointer (some ⟨sb, 0, none⟩)), (1, .int .i64 page), (2, .agg #[.int .i64 h.pages, .int .i64 h.kind, .int .u64 h.owner, .int .u64 h.next])]) (fun b14 b22 b23 b28 b29 => Sl (eI .u64) (some ⟨b28, 0, none⟩) [h.owner, h.next].length [h.owner, h.next] :: Sl (eI .u8) (some ⟨b23, 0, none⟩) (bsOf (4 : Int).toNat [h.pages, h.kind]).length (bsOf (4 : Int).toNat [h.pages, h.kind]) :: Sl (eI .u64) (some ⟨b22, 0, none⟩) [h.pages, h.kind].length [h.pages, h.kind] :: Spc sb P m :: pt hb (.cells [.int .i64 h.pages, .int .i64 h.kind, .int .u64 h.owner, .int .u64 h.next].toArray 267 (0, 0)) :: F) ?_ (fun s3_12_13_18 => ?_)
  · intro b14 b22 b23 b28 b29
    refine XD_two (h := ?_) (h' := ?_)
    · refine XDa_dvA (dv_lit (E' := eI .u8) magicB) (hk := ?_)
      rintro _ _ ⟨b14, rfl, rfl⟩
      refine ⟨by (repeat (first | exact keeps_nil | exact keeps_fnil | refine keeps_skip (h := ?_) | refine keeps_takeQ (h := ?_))), ?_⟩
      exact XD_perm2 (s3_4_12_13_18 b14 b22 b23 b28 b29)
    · refine XDa_dvA (dv_call (wbytes_spec _ _ _ [h.owner, h.next] 8 (by omega) (by simp) Sl.view)) (hk := ?_)
      rintro _ _ ⟨_, ⟨b29, rfl, rfl⟩, rfl⟩
      refine ⟨by (repeat (first | exact keeps_nil | exact keeps_fnil | refine keeps_skip (h := ?_) | refine keeps_takeQ (h := ?_))), ?_⟩
      exact XD_perm2 (s3_12_13_18_19 b14 b22 b23 b28 b29)
  refine XD_cut5 [(2, .int .i64 page, true), (1, .pointer (some ⟨sb, 0, none⟩), true), (0, .pointer (some ⟨sb, 0, none⟩), true)] [18, 12, 5, 4, 17, 16, 15, 14, 11, 10, 9, 8, 7, 6, 2, 1, 0] (fun b14 b22 b23 b28 b29 => [(28, .slice (some ⟨b28, 0, none⟩) [h.owner, h.next].length [h.owner, h.next].length), (22, .slice (some ⟨b22, 0, none⟩) [h.pages, h.kind].length [h.pages, h.kind].length), (15, .slice (some ⟨b14, 0, none⟩) magicB.length magicB.length), (14, .slice (some ⟨b14, 0, none⟩) magicB.length magicB.length), (27, .int .u64 h.next), (26, .pointer (some ⟨hb, 3, none⟩)), (25, .int .u64 h.owner), (24, .pointer (some ⟨hb, 2, none⟩)), (21, .int .u64 h.kind), (20, .int .i64 h.kind), (19, .pointer (some ⟨hb, 1, none⟩)), (18, .int .u64 h.pages), (17, .int .i64 h.pages), (16, .pointer (some ⟨hb, 0, none⟩)), (12, .int .i64 page), (11, .pointer (some ⟨sb, 0, none⟩)), (10, .pointer (some ⟨sb, 0, none⟩)), (9, .bool !true), (8, .bool true), (7, .agg #[.int .i64 h.pages, .int .i64 h.kind, .int .u64 h.owner, .int .u64 h.next]), (6, .int .i64 0), (5, .pointer (some ⟨hb, 0, none⟩)), (0, .pointer (some ⟨sb, 0, none⟩)), (1, .int .i64 page), (2, .agg #[.int .i64 h.pages, .int .i64 h.kind, .int .u64 h.owner, .int .u64 h.next])]) (fun b14 b22 b23 b28 b29 => Sl (eI .u64) (some ⟨b28, 0, none⟩) [h.owner, h.next].length [h.owner, h.next] :: Sl (eI .u64) (some ⟨b22, 0, none⟩) [h.pages, h.kind].length [h.pages, h.kind] :: Frz b14 magicB :: Spc sb P m :: pt hb (.cells [.int .i64 h.pages, .int .i64 h.kind, .int .u64 h.owner, .int .u64 h.next].toArray 267 (0, 0)) :: F) ?_ (fun s4_5_12_18 => ?_)
  · intro b14 b22 b23 b28 b29
    refine XD_one (h := ?_)
    · refine XDa_dvA (dv_call hat) (hk := ?_)
      rintro _ _ ⟨_, ⟨rfl, rfl⟩, rfl⟩
      refine ⟨by (repeat (first | exact keeps_nil | exact keeps_fnil | refine keeps_skip (h := ?_) | refine keeps_takeQ (h := ?_))), ?_⟩
      exact XD_perm2 (s3_4_5_12_18 b14 b22 b23 b28 b29)
  refine XD_cut5 [(17, .int .u64 h.next, false), (16, .pointer (some ⟨hb, 3, none⟩), true), (15, .int .u64 h.owner, false), (14, .pointer (some ⟨hb, 2, none⟩), true), (11, .int .u64 h.kind, true), (10, .int .i64 h.kind, false), (9, .pointer (some ⟨hb, 1, none⟩), true), (8, .int .u64 h.pages, true), (7, .int .i64 h.pages, false), (6, .pointer (some ⟨hb, 0, none⟩), true), (0, .pointer (some ⟨sb, 0, none⟩), true)] [5, 4, 3, 17, 16, 15, 14, 11, 10, 9, 8, 7, 6, 2, 1, 0] (fun b14 b22 b23 b28 b29 => [(15, .slice (some ⟨b14, 0, none⟩) magicB.length magicB.length), (14, .slice (some ⟨b14, 0, none⟩) magicB.length magicB.length), (13, .int .u64 (page * 4096)), (27, .int .u64 h.next), (26, .pointer (some ⟨hb, 3, none⟩)), (25, .int .u64 h.owner), (24, .pointer (some ⟨hb, 2, none⟩)), (21, .int .u64 h.kind), (20, .int .i64 h.kind), (19, .pointer (some ⟨hb, 1, none⟩)), (18, .int .u64 h.pages), (17, .int .i64 h.pages), (16, .pointer (some ⟨hb, 0, none⟩)), (12, .int .i64 page), (11, .pointer (some ⟨sb, 0, none⟩)), (10, .pointer (some ⟨sb, 0, none⟩)), (9, .bool !true), (8, .bool true), (7, .agg #[.int .i64 h.pages, .int .i64 h.kind, .int .u64 h.owner, .int .u64 h.next]), (6, .int .i64 0), (5, .pointer (some ⟨hb, 0, none⟩)), (0, .pointer (some ⟨sb, 0, none⟩)), (1, .int .i64 page), (2, .agg #[.int .i64 h.pages, .int .i64 h.kind, .int .u64 h.owner, .int .u64 h.next])]) (fun b14 b22 b23 b28 b29 => Frz b14 magicB :: Spc sb P m :: pt hb (.cells [.int .i64 h.pages, .int .i64 h.kind, .int .u64 h.owner, .int .u64 h.next].toArray 267 (0, 0)) :: F) ?_ (fun s3_4_5 => ?_)
  · intro b14 b22 b23 b28 b29
    refine XD_two (h := ?_) (h' := ?_)
    · refine XDa_dvA (dv_lit (E' := eI .u64) [h.pages, h.kind]) (hk := ?_)
      rintro _ _ ⟨b22, rfl, rfl⟩
      refine ⟨by (repeat (first | exact keeps_nil | exact keeps_fnil | refine keeps_skip (h := ?_) | refine keeps_takeQ (h := ?_))), ?_⟩
      exact XD_perm2 (s3_4_5_12 b14 b22 b23 b28 b29)
    · refine XDa_dvA (dv_lit (E' := eI .u64) [h.owner, h.next]) (hk := ?_)
      rintro _ _ ⟨b28, rfl, rfl⟩
      refine ⟨by (repeat (first | exact keeps_nil | exact keeps_fnil | refine keeps_skip (h := ?_) | refine keeps_takeQ (h := ?_))), ?_⟩
      exact XD_perm2 (s3_4_5_18 b14 b22 b23 b28 b29)
  refine XD_cut5 [(17, .int .u64 h.next, false), (16, .pointer (some ⟨hb, 3, none⟩), true), (15, .int .u64 h.owner, false), (14, .pointer (some ⟨hb, 2, none⟩), true), (0, .pointer (some ⟨sb, 0, none⟩), true)] [12, 4, 3, 17, 16, 15, 14, 11, 10, 9, 8, 7, 6, 2, 1, 0] (fun b14 b22 b23 b28 b29 => [(22, .slice (some ⟨b22, 0, none⟩) [h.pages, h.kind].length [h.pages, h.kind].length), (14, .slice (some ⟨b14, 0, none⟩) magicB.length magicB.length), (13, .int .u64 (page * 4096)), (27, .int .u64 h.next), (26, .pointer (some ⟨hb, 3, none⟩)), (25, .int .u64 h.owner), (24, .pointer (some ⟨hb, 2, none⟩)), (21, .int .u64 h.kind), (20, .int .i64 h.kind), (19, .pointer (some ⟨hb, 1, none⟩)), (18, .int .u64 h.pages), (17, .int .i64 h.pages), (16, .pointer (some ⟨hb, 0, none⟩)), (12, .int .i64 page), (11, .pointer (some ⟨sb, 0, none⟩)), (10, .pointer (some ⟨sb, 0, none⟩)), (9, .bool !true), (8, .bool true), (7, .agg #[.int .i64 h.pages, .int .i64 h.kind, .int .u64 h.owner, .int .u64 h.next]), (6, .int .i64 0), (5, .pointer (some ⟨hb, 0, none⟩)), (0, .pointer (some ⟨sb, 0, none⟩)), (1, .int .i64 page), (2, .agg #[.int .i64 h.pages, .int .i64 h.kind, .int .u64 h.owner, .int .u64 h.next])]) (fun b14 b22 b23 b28 b29 => Sl (eI .u64) (some ⟨b22, 0, none⟩) [h.pages, h.kind].length [h.pages, h.kind] :: Sl (eI .u8) (some ⟨b14, 0, none⟩) magicB.length magicB :: Spc sb P m :: pt hb (.cells [.int .i64 h.pages, .int .i64 h.kind, .int .u64 h.owner, .int .u64 h.next].toArray 267 (0, 0)) :: F) ?_ (fun s3_4_12 => ?_)
  · intro b14 b22 b23 b28 b29
    refine XD_three (h := ?_) (h' := ?_) (h2 := ?_)
    · refine XDa_dvA (dv_convSl) (hk := ?_)
      rintro _ _ ⟨rfl, rfl⟩
      refine ⟨by (repeat (first | exact keeps_nil | exact keeps_fnil | refine keeps_skip (h := ?_) | refine keeps_takeQ (h := ?_))), ?_⟩
      exact XD_perm2 (s3_4_5_12 b14 b22 b23 b28 b29)
    · refine XDa_dvA (dv_call (wbytes_spec _ _ _ [h.pages, h.kind] 4 (by omega) (by simp) Sl.view)) (hk := ?_)
      rintro _ _ ⟨_, ⟨b23, rfl, rfl⟩, rfl⟩
      refine ⟨by (repeat (first | exact keeps_nil | exact keeps_fnil | refine keeps_skip (h := ?_) | refine keeps_takeQ (h := ?_))), ?_⟩
      exact XD_perm2 (s3_4_12_13 b14 b22 b23 b28 b29)
    · refine XDa_dvA (dv_lit (E' := eI .u64) [h.owner, h.next]) (hk := ?_)
      rintro _ _ ⟨b28, rfl, rfl⟩
      refine ⟨by (repeat (first | exact keeps_nil | exact keeps_fnil | refine keeps_skip (h := ?_) | refine keeps_takeQ (h := ?_))), ?_⟩
      exact XD_perm2 (s3_4_12_18 b14 b22 b23 b28 b29)
  refine XD_cut5 [(11, .int .u64 h.kind, true), (10, .int .i64 h.kind, false), (9, .pointer (some ⟨hb, 1, none⟩), true), (8, .int .u64 h.pages, true), (7, .int .i64 h.pages, false), (6, .pointer (some ⟨hb, 0, none⟩), true), (0, .pointer (some ⟨sb, 0, none⟩), true)] [18, 4, 3, 17, 16, 15, 14, 11, 10, 9, 8, 7, 6, 2, 1, 0] (fun b14 b22 b23 b28 b29 => [(28, .slice (some ⟨b28, 0, none⟩) [h.owner, h.next].length [h.owner, h.next].length), (14, .slice (some ⟨b14, 0, none⟩) magicB.length magicB.length), (13, .int .u64 (page * 4096)), (27, .int .u64 h.next), (26, .pointer (some ⟨hb, 3, none⟩)), (25, .int .u64 h.owner), (24, .pointer (some ⟨hb, 2, none⟩)), (21, .int .u64 h.kind), (20, .int .i64 h.kind), (19, .pointer (some ⟨hb, 1, none⟩)), (18, .int .u64 h.pages), (17, .int .i64 h.pages), (16, .pointer (some ⟨hb, 0, none⟩)), (12, .int .i64 page), (11, .pointer (some ⟨sb, 0, none⟩)), (10, .pointer (some ⟨sb, 0, none⟩)), (9, .bool !true), (8, .bool true), (7, .agg #[.int .i64 h.pages, .int .i64 h.kind, .int .u64 h.owner, .int .u64 h.next]), (6, .int .i64 0), (5, .pointer (some ⟨hb, 0, none⟩)), (0, .pointer (some ⟨sb, 0, none⟩)), (1, .int .i64 page), (2, .agg #[.int .i64 h.pages, .int .i64 h.kind, .int .u64 h.owner, .int .u64 h.next])]) (fun b14 b22 b23 b28 b29 => Sl (eI .u64) (some ⟨b28, 0, none⟩) [h.owner, h.next].length [h.owner, h.next] :: Sl (eI .u8) (some ⟨b14, 0, none⟩) magicB.length magicB :: Spc sb P m :: pt hb (.cells [.int .i64 h.pages, .int .i64 h.kind, .int .u64 h.owner, .int .u64 h.next].toArray 267 (0, 0)) :: F) ?_ (fun s3_4_18 => ?_)
  · intro b14 b22 b23 b28 b29
    refine XD_two (h := ?_) (h' := ?_)
    · refine XDa_dvA (dv_convSl) (hk := ?_)
      rintro _ _ ⟨rfl, rfl⟩
      refine ⟨by (repeat (first | exact keeps_nil | exact keeps_fnil | refine keeps_skip (h := ?_) | refine keeps_takeQ (h := ?_))), ?_⟩
      exact XD_perm2 (s3_4_5_18 b14 b22 b23 b28 b29)
    · refine XDa_dvA (dv_lit (E' := eI .u64) [h.pages, h.kind]) (hk := ?_)
      rintro _ _ ⟨b22, rfl, rfl⟩
      refine ⟨by (repeat (first | exact keeps_nil | exact keeps_fnil | refine keeps_skip (h := ?_) | refine keeps_takeQ (h := ?_))), ?_⟩
      exact XD_perm2 (s3_4_12_18 b14 b22 b23 b28 b29)
  refine XD_cut5 [(17, .int .u64 h.next, false), (16, .pointer (some ⟨hb, 3, none⟩), true), (15, .int .u64 h.owner, false), (14, .pointer (some ⟨hb, 2, none⟩), true), (0, .pointer (some ⟨sb, 0, none⟩), true)] [13, 12, 3, 17, 16, 15, 14, 11, 10, 9, 8, 7, 6, 2, 1, 0] (fun b14 b22 b23 b28 b29 => [(23, .slice (some ⟨b23, 0, none⟩) (bsOf (4 : Int).toNat [h.pages, h.kind]).length (bsOf (4 : Int).toNat [h.pages, h.kind]).length), (22, .slice (some ⟨b22, 0, none⟩) [h.pages, h.kind].length [h.pages, h.kind].length), (13, .int .u64 (page * 4096)), (27, .int .u64 h.next), (26, .pointer (some ⟨hb, 3, none⟩)), (25, .int .u64 h.owner), (24, .pointer (some ⟨hb, 2, none⟩)), (21, .int .u64 h.kind), (20, .int .i64 h.kind), (19, .pointer (some ⟨hb, 1, none⟩)), (18, .int .u64 h.pages), (17, .int .i64 h.pages), (16, .pointer (some ⟨hb, 0, none⟩)), (12, .int .i64 page), (11, .pointer (some ⟨sb, 0, none⟩)), (10, .pointer (some ⟨sb, 0, none⟩)), (9, .bool !true), (8, .bool true), (7, .agg #[.int .i64 h.pages, .int .i64 h.kind, .int .u64 h.owner, .int .u64 h.next]), (6, .int .i64 0), (5, .pointer (some ⟨hb, 0, none⟩)), (0, .pointer (some ⟨sb, 0, none⟩)), (1, .int .i64 page), (2, .agg #[.int .i64 h.pages, .int .i64 h.kind, .int .u64 h.owner, .int .u64 h.next])]) (fun b14 b22 b23 b28 b29 => Sl (eI .u8) (some ⟨b23, 0, none⟩) (bsOf (4 : Int).toNat [h.pages, h.kind]).length (bsOf (4 : Int).toNat [h.pages, h.kind]) :: Sl (eI .u64) (some ⟨b22, 0, none⟩) [h.pages, h.kind].length [h.pages, h.kind] :: Spc sb P m :: pt hb (.cells [.int .i64 h.pages, .int .i64 h.kind, .int .u64 h.owner, .int .u64 h.next].toArray 267 (0, 0)) :: F) ?_ (fun s3_12_13 => ?_)
  · intro b14 b22 b23 b28 b29
    refine XD_two (h := ?_) (h' := ?_)
    · refine XDa_dvA (dv_lit (E' := eI .u8) magicB) (hk := ?_)
      rintro _ _ ⟨b14, rfl, rfl⟩
      refine ⟨by (repeat (first | exact keeps_nil | exact keeps_fnil | refine keeps_skip (h := ?_) | refine keeps_takeQ (h := ?_))), ?_⟩
      exact XD_perm2 (s3_4_12_13 b14 b22 b23 b28 b29)
    · refine XDa_dvA (dv_lit (E' := eI .u64) [h.owner, h.next]) (hk := ?_)
      rintro _ _ ⟨b28, rfl, rfl⟩
      refine ⟨by (repeat (first | exact keeps_nil | exact keeps_fnil | refine keeps_skip (h := ?_) | refine keeps_takeQ (h := ?_))), ?_⟩
      exact XD_perm2 (s3_12_13_18 b14 b22 b23 b28 b29)
  refine XD_cut5 [(0, .pointer (some ⟨sb, 0, none⟩), true)] [18, 12, 3, 17, 16, 15, 14, 11, 10, 9, 8, 7, 6, 2, 1, 0] (fun b14 b22 b23 b28 b29 => [(28, .slice (some ⟨b28, 0, none⟩) [h.owner, h.next].length [h.owner, h.next].length), (22, .slice (some ⟨b22, 0, none⟩) [h.pages, h.kind].length [h.pages, h.kind].length), (13, .int .u64 (page * 4096)), (27, .int .u64 h.next), (26, .pointer (some ⟨hb, 3, none⟩)), (25, .int .u64 h.owner), (24, .pointer (some ⟨hb, 2, none⟩)), (21, .int .u64 h.kind), (20, .int .i64 h.kind), (19, .pointer (some ⟨hb, 1, none⟩)), (18, .int .u64 h.pages), (17, .int .i64 h.pages), (16, .pointer (some ⟨hb, 0, none⟩)), (12, .int .i64 page), (11, .pointer (some ⟨sb, 0, none⟩)), (10, .pointer (some ⟨sb, 0, none⟩)), (9, .bool !true), (8, .bool true), (7, .agg #[.int .i64 h.pages, .int .i64 h.kind, .int .u64 h.owner, .int .u64 h.next]), (6, .int .i64 0), (5, .pointer (some ⟨hb, 0, none⟩)), (0, .pointer (some ⟨sb, 0, none⟩)), (1, .int .i64 page), (2, .agg #[.int .i64 h.pages, .int .i64 h.kind, .int .u64 h.owner, .int .u64 h.next])]) (fun b14 b22 b23 b28 b29 => Sl (eI .u64) (some ⟨b28, 0, none⟩) [h.owner, h.next].length [h.owner, h.next] :: Sl (eI .u64) (some ⟨b22, 0, none⟩) [h.pages, h.kind].length [h.pages, h.kind] :: Spc sb P m :: pt hb (.cells [.int .i64 h.pages, .int .i64 h.kind, .int .u64 h.owner, .int .u64 h.next].toArray 267 (0, 0)) :: F) ?_ (fun s3_12_18 => ?_)
  · intro b14 b22 b23 b28 b29
    refine XD_two (h := ?_) (h' := ?_)
    · refine XDa_dvA (dv_lit (E' := eI .u8) magicB) (hk := ?_)
      rintro _ _ ⟨b14, rfl, rfl⟩
      refine ⟨by (repeat (first | exact keeps_nil | exact keeps_fnil | refine keeps_skip (h := ?_) | refine keeps_takeQ (h := ?_))), ?_⟩
      exact XD_perm2 (s3_4_12_18 b14 b22 b23 b28 b29)
    · refine XDa_dvA (dv_call (wbytes_spec _ _ _ [h.pages, h.kind] 4 (by omega) (by simp) Sl.view)) (hk := ?_)
      rintro _ _ ⟨_, ⟨b23, rfl, rfl⟩, rfl⟩
      refine ⟨by (repeat (first | exact keeps_nil | exact keeps_fnil | refine keeps_skip (h := ?_) | refine keeps_takeQ (h := ?_))), ?_⟩
      exact XD_perm2 (s3_12_13_18 b14 b22 b23 b28 b29)
  refine XD_cut5 [(17, .int .u64 h.next, false), (16, .pointer (some ⟨hb, 3, none⟩), true), (15, .int .u64 h.owner, false), (14, .pointer (some ⟨hb, 2, none⟩), true), (2, .int .i64 page, true), (1, .pointer (some ⟨sb, 0, none⟩), true), (0, .pointer (some ⟨sb, 0, none⟩), true)] [12, 5, 4, 17, 16, 15, 14, 11, 10, 9, 8, 7, 6, 2, 1, 0] (fun b14 b22 b23 b28 b29 => [(22, .slice (some ⟨b22, 0, none⟩) [h.pages, h.kind].length [h.pages, h.kind].length), (15, .slice (some ⟨b14, 0, none⟩) magicB.length magicB.length), (14, .slice (some ⟨b14, 0, none⟩) magicB.length magicB.length), (27, .int .u64 h.next), (26, .pointer (some ⟨hb, 3, none⟩)), (25, .int .u64 h.owner), (24, .pointer (some ⟨hb, 2, none⟩)), (21, .int .u64 h.kind), (20, .int .i64 h.kind), (19, .pointer (some ⟨hb, 1, none⟩)), (18, .int .u64 h.pages), (17, .int .i64 h.pages), (16, .pointer (some ⟨hb, 0, none⟩)), (12, .int .i64 page), (11, .pointer (some ⟨sb, 0, none⟩)), (10, .pointer (some ⟨sb, 0, none⟩)), (9, .bool !true), (8, .bool true), (7, .agg #[.int .i64 h.pages, .int .i64 h.kind, .int .u64 h.owner, .int .u64 h.next]), (6, .int .i64 0), (5, .pointer (some ⟨hb, 0, none⟩)), (0, .pointer (some ⟨sb, 0, none⟩)), (1, .int .i64 page), (2, .agg #[.int .i64 h.pages, .int .i64 h.kind, .int .u64 h.owner, .int .u64 h.next])]) (fun b14 b22 b23 b28 b29 => Sl (eI .u64) (some ⟨b22, 0, none⟩) [h.pages, h.kind].length [h.pages, h.kind] :: Frz b14 magicB :: Spc sb P m :: pt hb (.cells [.int .i64 h.pages, .int .i64 h.kind, .int .u64 h.owner, .int .u64 h.next].toArray 267 (0, 0)) :: F) ?_ (fun s4_5_12 => ?_)
  · intro b14 b22 b23 b28 b29
    refine XD_two (h := ?_) (h' := ?_)
    · refine XDa_dvA (dv_call hat) (hk := ?_)
      rintro _ _ ⟨_, ⟨rfl, rfl⟩, rfl⟩
      refine ⟨by (repeat (first | exact keeps_nil | exact keeps_fnil | refine keeps_skip (h := ?_) | refine keeps_takeQ (h := ?_))), ?_⟩
      exact XD_perm2 (s3_4_5_12 b14 b22 b23 b28 b29)
    · refine XDa_dvA (dv_lit (E' := eI .u64) [h.owner, h.next]) (hk := ?_)
      rintro _ _ ⟨b28, rfl, rfl⟩
      refine ⟨by (repeat (first | exact keeps_nil | exact keeps_fnil | refine keeps_skip (h := ?_) | refine keeps_takeQ (h := ?_))), ?_⟩
      exact XD_perm2 (s4_5_12_18 b14 b22 b23 b28 b29)
  refine XD_cut5 [(11, .int .u64 h.kind, true), (10, .int .i64 h.kind, false), (9, .pointer (some ⟨hb, 1, none⟩), true), (8, .int .u64 h.pages, true), (7, .int .i64 h.pages, false), (6, .pointer (some ⟨hb, 0, none⟩), true), (2, .int .i64 page, true), (1, .pointer (some ⟨sb, 0, none⟩), true), (0, .pointer (some ⟨sb, 0, none⟩), true)] [18, 5, 4, 17, 16, 15, 14, 11, 10, 9, 8, 7, 6, 2, 1, 0] (fun b14 b22 b23 b28 b29 => [(28, .slice (some ⟨b28, 0, none⟩) [h.owner, h.next].length [h.owner, h.next].length), (15, .slice (some ⟨b14, 0, none⟩) magicB.length magicB.length), (14, .slice (some ⟨b14, 0, none⟩) magicB.length magicB.length), (27, .int .u64 h.next), (26, .pointer (some ⟨hb, 3, none⟩)), (25, .int .u64 h.owner), (24, .pointer (some ⟨hb, 2, none⟩)), (21, .int .u64 h.kind), (20, .int .i64 h.kind), (19, .pointer (some ⟨hb, 1, none⟩)), (18, .int .u64 h.pages), (17, .int .i64 h.pages), (16, .pointer (some ⟨hb, 0, none⟩)), (12, .int .i64 page), (11, .pointer (some ⟨sb, 0, none⟩)), (10, .pointer (some ⟨sb, 0, none⟩)), (9, .bool !true), (8, .bool true), (7, .agg #[.int .i64 h.pages, .int .i64 h.kind, .int .u64 h.owner, .int .u64 h.next]), (6, .int .i64 0), (5, .pointer (some ⟨hb, 0, none⟩)), (0, .pointer (some ⟨sb, 0, none⟩)), (1, .int .i64 page), (2, .agg #[.int .i64 h.pages, .int .i64 h.kind, .int .u64 h.owner, .int .u64 h.next])]) (fun b14 b22 b23 b28 b29 => Sl (eI .u64) (some ⟨b28, 0, none⟩) [h.owner, h.next].length [h.owner, h.next] :: Frz b14 magicB :: Spc sb P m :: pt hb (.cells [.int .i64 h.pages, .int .i64 h.kind, .int .u64 h.owner, .int .u64 h.next].toArray 267 (0, 0)) :: F) ?_ (fun s4_5_18 => ?_)
  · intro b14 b22 b23 b28 b29
    refine XD_two (h := ?_) (h' := ?_)
    · refine XDa_dvA (dv_call hat) (hk := ?_)
      rintro _ _ ⟨_, ⟨rfl, rfl⟩, rfl⟩
      refine ⟨by (repeat (first | exact keeps_nil | exact keeps_fnil | refine keeps_skip (h := ?_) | refine keeps_takeQ (h := ?_))), ?_⟩
      exact XD_perm2 (s3_4_5_18 b14 b22 b23 b28 b29)
    · refine XDa_dvA (dv_lit (E' := eI .u64) [h.pages, h.kind]) (hk := ?_)
      rintro _ _ ⟨b22, rfl, rfl⟩
      refine ⟨by (repeat (first | exact keeps_nil | exact keeps_fnil | refine keeps_skip (h := ?_) | refine keeps_takeQ (h := ?_))), ?_⟩
      exact XD_perm2 (s4_5_12_18 b14 b22 b23 b28 b29)
  refine XD_cut5 [(2, .int .i64 page, true), (1, .pointer (some ⟨sb, 0, none⟩), true), (0, .pointer (some ⟨sb, 0, none⟩), true)] [18, 12, 4, 17, 16, 15, 14, 11, 10, 9, 8, 7, 6, 2, 1, 0] (fun b14 b22 b23 b28 b29 => [(28, .slice (some ⟨b28, 0, none⟩) [h.owner, h.next].length [h.owner, h.next].length), (22, .slice (some ⟨b22, 0, none⟩) [h.pages, h.kind].length [h.pages, h.kind].length), (14, .slice (some ⟨b14, 0, none⟩) magicB.length magicB.length), (27, .int .u64 h.next), (26, .pointer (some ⟨hb, 3, none⟩)), (25, .int .u64 h.owner), (24, .pointer (some ⟨hb, 2, none⟩)), (21, .int .u64 h.kind), (20, .int .i64 h.kind), (19, .pointer (some ⟨hb, 1, none⟩)), (18, .int .u64 h.pages), (17, .int .i64 h.pages), (16, .pointer (some ⟨hb, 0, none⟩)), (12, .int .i64 page), (11, .pointer (some ⟨sb, 0, none⟩)), (10, .pointer (some ⟨sb, 0, none⟩)), (9, .bool !true), (8, .bool true), (7, .agg #[.int .i64 h.pages, .int .i64 h.kind, .int .u64 h.owner, .int .u64 h.next]), (6, .int .i64 0), (5, .pointer (some ⟨hb, 0, none⟩)), (0, .pointer (some ⟨sb, 0, none⟩)), (1, .int .i64 page), (2, .agg #[.int .i64 h.pages, .int .i64 h.kind, .int .u64 h.owner, .int .u64 h.next])]) (fun b14 b22 b23 b28 b29 => Sl (eI .u64) (some ⟨b28, 0, none⟩) [h.owner, h.next].length [h.owner, h.next] :: Sl (eI .u64) (some ⟨b22, 0, none⟩) [h.pages, h.kind].length [h.pages, h.kind] :: Sl (eI .u8) (some ⟨b14, 0, none⟩) magicB.length magicB :: Spc sb P m :: pt hb (.cells [.int .i64 h.pages, .int .i64 h.kind, .int .u64 h.owner, .int .u64 h.next].toArray 267 (0, 0)) :: F) ?_ (fun s4_12_18 => ?_)
  · intro b14 b22 b23 b28 b29
    refine XD_two (h := ?_) (h' := ?_)
    · refine XDa_dvA (dv_call hat) (hk := ?_)
      rintro _ _ ⟨_, ⟨rfl, rfl⟩, rfl⟩
      refine ⟨by (repeat (first | exact keeps_nil | exact keeps_fnil | refine keeps_skip (h := ?_) | refine keeps_takeQ (h := ?_))), ?_⟩
      exact XD_perm2 (s3_4_12_18 b14 b22 b23 b28 b29)
    · refine XDa_dvA (dv_convSl) (hk := ?_)
      rintro _ _ ⟨rfl, rfl⟩
      refine ⟨by (repeat (first | exact keeps_nil | exact keeps_fnil | refine keeps_skip (h := ?_) | refine keeps_takeQ (h := ?_))), ?_⟩
      exact XD_perm2 (s4_5_12_18 b14 b22 b23 b28 b29)
  refine XD_cut5 [(17, .int .u64 h.next, false), (16, .pointer (some ⟨hb, 3, none⟩), true), (15, .int .u64 h.owner, false), (14, .pointer (some ⟨hb, 2, none⟩), true), (11, .int .u64 h.kind, true), (10, .int .i64 h.kind, false), (9, .pointer (some ⟨hb, 1, none⟩), true), (8, .int .u64 h.pages, true), (7, .int .i64 h.pages, false), (6, .pointer (some ⟨hb, 0, none⟩), true), (0, .pointer (some ⟨sb, 0, none⟩), true)] [4, 3, 17, 16, 15, 14, 11, 10, 9, 8, 7, 6, 2, 1, 0] (fun b14 b22 b23 b28 b29 => [(14, .slice (some ⟨b14, 0, none⟩) magicB.length magicB.length), (13, .int .u64 (page * 4096)), (27, .int .u64 h.next), (26, .pointer (some ⟨hb, 3, none⟩)), (25, .int .u64 h.owner), (24, .pointer (some ⟨hb, 2, none⟩)), (21, .int .u64 h.kind), (20, .int .i64 h.kind), (19, .pointer (some ⟨hb, 1, none⟩)), (18, .int .u64 h.pages), (17, .int .i64 h.pages), (16, .pointer (some ⟨hb, 0, none⟩)), (12, .int .i64 page), (11, .pointer (some ⟨sb, 0, none⟩)), (10, .pointer (some ⟨sb, 0, none⟩)), (9, .bool !true), (8, .bool true), (7, .agg #[.int .i64 h.pages, .int .i64 h.kind, .int .u64 h.owner, .int .u64 h.next]), (6, .int .i64 0), (5, .pointer (some ⟨hb, 0, none⟩)), (0, .pointer (some ⟨sb, 0, none⟩)), (1, .int .i64 page), (2, .agg #[.int .i64 h.pages, .int .i64 h.kind, .int .u64 h.owner, .int .u64 h.next])]) (fun b14 b22 b23 b28 b29 => Sl (eI .u8) (some ⟨b14, 0, none⟩) magicB.length magicB :: Spc sb P m :: pt hb (.cells [.int .i64 h.pages, .int .i64 h.kind, .int .u64 h.owner, .int .u64 h.next].toArray 267 (0, 0)) :: F) ?_ (fun s3_4 => ?_)
  · intro b14 b22 b23 b28 b29
    refine XD_three (h := ?_) (h' := ?_) (h2 := ?_)
    · refine XDa_dvA (dv_convSl) (hk := ?_)
      rintro _ _ ⟨rfl, rfl⟩
      refine ⟨by (repeat (first | exact keeps_nil | exact keeps_fnil | refine keeps_skip (h := ?_) | refine keeps_takeQ (h := ?_))), ?_⟩
      exact XD_perm2 (s3_4_5 b14 b22 b23 b28 b29)
    · refine XDa_dvA (dv_lit (E' := eI .u64) [h.pages, h.kind]) (hk := ?_)
      rintro _ _ ⟨b22, rfl, rfl⟩
      refine ⟨by (repeat (first | exact keeps_nil | exact keeps_fnil | refine keeps_skip (h := ?_) | refine keeps_takeQ (h := ?_))), ?_⟩
      exact XD_perm2 (s3_4_12 b14 b22 b23 b28 b29)
    · refine XDa_dvA (dv_lit (E' := eI .u64) [h.owner, h.next]) (hk := ?_)
      rintro _ _ ⟨b28, rfl, rfl⟩
      refine ⟨by (repeat (first | exact keeps_nil | exact keeps_fnil | refine keeps_skip (h := ?_) | refine keeps_takeQ (h := ?_))), ?_⟩
      exact XD_perm2 (s3_4_18 b14 b22 b23 b28 b29)
  refine XD_cut5 [(17, .int .u64 h.next, false), (16, .pointer (some ⟨hb, 3, none⟩), true), (15, .int .u64 h.owner, false), (14, .pointer (some ⟨hb, 2, none⟩), true), (0, .pointer (some ⟨sb, 0, none⟩), true)] [12, 3, 17, 16, 15, 14, 11, 10, 9, 8, 7, 6, 2, 1, 0] (fun b14 b22 b23 b28 b29 => [(22, .slice (some ⟨b22, 0, none⟩) [h.pages, h.kind].length [h.pages, h.kind].length), (13, .int .u64 (page * 4096)), (27, .int .u64 h.next), (26, .pointer (some ⟨hb, 3, none⟩)), (25, .int .u64 h.owner), (24, .pointer (some ⟨hb, 2, none⟩)), (21, .int .u64 h.kind), (20, .int .i64 h.kind), (19, .pointer (some ⟨hb, 1, none⟩)), (18, .int .u64 h.pages), (17, .int .i64 h.pages), (16, .pointer (some ⟨hb, 0, none⟩)), (12, .int .i64 page), (11, .pointer (some ⟨sb, 0, none⟩)), (10, .pointer (some ⟨sb, 0, none⟩)), (9, .bool !true), (8, .bool true), (7, .agg #[.int .i64 h.pages, .int .i64 h.kind, .int .u64 h.owner, .int .u64 h.next]), (6, .int .i64 0), (5, .pointer (some ⟨hb, 0, none⟩)), (0, .pointer (some ⟨sb, 0, none⟩)), (1, .int .i64 page), (2, .agg #[.int .i64 h.pages, .int .i64 h.kind, .int .u64 h.owner, .int .u64 h.next])]) (fun b14 b22 b23 b28 b29 => Sl (eI .u64) (some ⟨b22, 0, none⟩) [h.pages, h.kind].length [h.pages, h.kind] :: Spc sb P m :: pt hb (.cells [.int .i64 h.pages, .int .i64 h.kind, .int .u64 h.owner, .int .u64 h.next].toArray 267 (0, 0)) :: F) ?_ (fun s3_12 => ?_)
  · intro b14 b22 b23 b28 b29
    refine XD_three (h := ?_) (h' := ?_) (h2 := ?_)
    · refine XDa_dvA (dv_lit (E' := eI .u8) magicB) (hk := ?_)
      rintro _ _ ⟨b14, rfl, rfl⟩
      refine ⟨by (repeat (first | exact keeps_nil | exact keeps_fnil | refine keeps_skip (h := ?_) | refine keeps_takeQ (h := ?_))), ?_⟩
      exact XD_perm2 (s3_4_12 b14 b22 b23 b28 b29)
    · refine XDa_dvA (dv_call (wbytes_spec _ _ _ [h.pages, h.kind] 4 (by omega) (by simp) Sl.view)) (hk := ?_)
      rintro _ _ ⟨_, ⟨b23, rfl, rfl⟩, rfl⟩
      refine ⟨by (repeat (first | exact keeps_nil | exact keeps_fnil | refine keeps_skip (h := ?_) | refine keeps_takeQ (h := ?_))), ?_⟩
      exact XD_perm2 (s3_12_13 b14 b22 b23 b28 b29)
    · refine XDa_dvA (dv_lit (E' := eI .u64) [h.owner, h.next]) (hk := ?_)
      rintro _ _ ⟨b28, rfl, rfl⟩
      refine ⟨by (repeat (first | exact keeps_nil | exact keeps_fnil | refine keeps_skip (h := ?_) | refine keeps_takeQ (h := ?_))), ?_⟩
      exact XD_perm2 (s3_12_18 b14 b22 b23 b28 b29)
  refine XD_cut5 [(11, .int .u64 h.kind, true), (10, .int .i64 h.kind, false), (9, .pointer (some ⟨hb, 1, none⟩), true), (8, .int .u64 h.pages, true), (7, .int .i64 h.pages, false), (6, .pointer (some ⟨hb, 0, none⟩), true), (0, .pointer (some ⟨sb, 0, none⟩), true)] [18, 3, 17, 16, 15, 14, 11, 10, 9, 8, 7, 6, 2, 1, 0] (fun b14 b22 b23 b28 b29 => [(28, .slice (some ⟨b28, 0, none⟩) [h.owner, h.next].length [h.owner, h.next].length), (13, .int .u64 (page * 4096)), (27, .int .u64 h.next), (26, .pointer (some ⟨hb, 3, none⟩)), (25, .int .u64 h.owner), (24, .pointer (some ⟨hb, 2, none⟩)), (21, .int .u64 h.kind), (20, .int .i64 h.kind), (19, .pointer (some ⟨hb, 1, none⟩)), (18, .int .u64 h.pages), (17, .int .i64 h.pages), (16, .pointer (some ⟨hb, 0, none⟩)), (12, .int .i64 page), (11, .pointer (some ⟨sb, 0, none⟩)), (10, .pointer (some ⟨sb, 0, none⟩)), (9, .bool !true), (8, .bool true), (7, .agg #[.int .i64 h.pages, .int .i64 h.kind, .int .u64 h.owner, .int .u64 h.next]), (6, .int .i64 0), (5, .pointer (some ⟨hb, 0, none⟩)), (0, .pointer (some ⟨sb, 0, none⟩)), (1, .int .i64 page), (2, .agg #[.int .i64 h.pages, .int .i64 h.kind, .int .u64 h.owner, .int .u64 h.next])]) (fun b14 b22 b23 b28 b29 => Sl (eI .u64) (some ⟨b28, 0, none⟩) [h.owner, h.next].length [h.owner, h.next] :: Spc sb P m :: pt hb (.cells [.int .i64 h.pages, .int .i64 h.kind, .int .u64 h.owner, .int .u64 h.next].toArray 267 (0, 0)) :: F) ?_ (fun s3_18 => ?_)
  · intro b14 b22 b23 b28 b29
    refine XD_two (h := ?_) (h' := ?_)
    · refine XDa_dvA (dv_lit (E' := eI .u8) magicB) (hk := ?_)
      rintro _ _ ⟨b14, rfl, rfl⟩
      refine ⟨by (repeat (first | exact keeps_nil | exact keeps_fnil | refine keeps_skip (h := ?_) | refine keeps_takeQ (h := ?_))), ?_⟩
      exact XD_perm2 (s3_4_18 b14 b22 b23 b28 b29)
    · refine XDa_dvA (dv_lit (E' := eI .u64) [h.pages, h.kind]) (hk := ?_)
      rintro _ _ ⟨b22, rfl, rfl⟩
      refine ⟨by (repeat (first | exact keeps_nil | exact keeps_fnil | refine keeps_skip (h := ?_) | refine keeps_takeQ (h := ?_))), ?_⟩
      exact XD_perm2 (s3_12_18 b14 b22 b23 b28 b29)
  refine XD_cut5 [(17, .int .u64 h.next, false), (16, .pointer (some ⟨hb, 3, none⟩), true), (15, .int .u64 h.owner, false), (14, .pointer (some ⟨hb, 2, none⟩), true), (11, .int .u64 h.kind, true), (10, .int .i64 h.kind, false), (9, .pointer (some ⟨hb, 1, none⟩), true), (8, .int .u64 h.pages, true), (7, .int .i64 h.pages, false), (6, .pointer (some ⟨hb, 0, none⟩), true), (2, .int .i64 page, true), (1, .pointer (some ⟨sb, 0, none⟩), true), (0, .pointer (some ⟨sb, 0, none⟩), true)] [5, 4, 17, 16, 15, 14, 11, 10, 9, 8, 7, 6, 2, 1, 0] (fun b14 b22 b23 b28 b29 => [(15, .slice (some ⟨b14, 0, none⟩) magicB.length magicB.length), (14, .slice (some ⟨b14, 0, none⟩) magicB.length magicB.length), (27, .int .u64 h.next), (26, .pointer (some ⟨hb, 3, none⟩)), (25, .int .u64 h.owner), (24, .pointer (some ⟨hb, 2, none⟩)), (21, .int .u64 h.kind), (20, .int .i64 h.kind), (19, .pointer (some ⟨hb, 1, none⟩)), (18, .int .u64 h.pages), (17, .int .i64 h.pages), (16, .pointer (some ⟨hb, 0, none⟩)), (12, .int .i64 page), (11, .pointer (some ⟨sb, 0, none⟩)), (10, .pointer (some ⟨sb, 0, none⟩)), (9, .bool !true), (8, .bool true), (7, .agg #[.int .i64 h.pages, .int .i64 h.kind, .int .u64 h.owner, .int .u64 h.next]), (6, .int .i64 0), (5, .pointer (some ⟨hb, 0, none⟩)), (0, .pointer (some ⟨sb, 0, none⟩)), (1, .int .i64 page), (2, .agg #[.int .i64 h.pages, .int .i64 h.kind, .int .u64 h.owner, .int .u64 h.next])]) (fun b14 b22 b23 b28 b29 => Frz b14 magicB :: Spc sb P m :: pt hb (.cells [.int .i64 h.pages, .int .i64 h.kind, .int .u64 h.owner, .int .u64 h.next].toArray 267 (0, 0)) :: F) ?_ (fun s4_5 => ?_)
  · intro b14 b22 b23 b28 b29
    refine XD_three (h := ?_) (h' := ?_) (h2 := ?_)
    · refine XDa_dvA (dv_call hat) (hk := ?_)
      rintro _ _ ⟨_, ⟨rfl, rfl⟩, rfl⟩
      refine ⟨by (repeat (first | exact keeps_nil | exact keeps_fnil | refine keeps_skip (h := ?_) | refine keeps_takeQ (h := ?_))), ?_⟩
      exact XD_perm2 (s3_4_5 b14 b22 b23 b28 b29)
    · refine XDa_dvA (dv_lit (E' := eI .u64) [h.pages, h.kind]) (hk := ?_)
      rintro _ _ ⟨b22, rfl, rfl⟩
      refine ⟨by (repeat (first | exact keeps_nil | exact keeps_fnil | refine keeps_skip (h := ?_) | refine keeps_takeQ (h := ?_))), ?_⟩
      exact XD_perm2 (s4_5_12 b14 b22 b23 b28 b29)
    · refine XDa_dvA (dv_lit (E' := eI .u64) [h.owner, h.next]) (hk := ?_)
      rintro _ _ ⟨b28, rfl, rfl⟩
      refine ⟨by (repeat (first | exact keeps_nil | exact keeps_fnil | refine keeps_skip (h := ?_) | refine keeps_takeQ (h := ?_))), ?_⟩
      exact XD_perm2 (s4_5_18 b14 b22 b23 b28 b29)
  refine XD_cut5 [(17, .int .u64 h.next, false), (16, .pointer (some ⟨hb, 3, none⟩), true), (15, .int .u64 h.owner, false), (14, .pointer (some ⟨hb, 2, none⟩), true), (2, .int .i64 page, true), (1, .pointer (some ⟨sb, 0, none⟩), true), (0, .pointer (some ⟨sb, 0, none⟩), true)] [12, 4, 17, 16, 15, 14, 11, 10, 9, 8, 7, 6, 2, 1, 0] (fun b14 b22 b23 b28 b29 => [(22, .slice (some ⟨b22, 0, none⟩) [h.pages, h.kind].length [h.pages, h.kind].length), (14, .slice (some ⟨b14, 0, none⟩) magicB.length magicB.length), (27, .int .u64 h.next), (26, .pointer (some ⟨hb, 3, none⟩)), (25, .int .u64 h.owner), (24, .pointer (some ⟨hb, 2, none⟩)), (21, .int .u64 h.kind), (20, .int .i64 h.kind), (19, .pointer (some ⟨hb, 1, none⟩)), (18, .int .u64 h.pages), (17, .int .i64 h.pages), (16, .pointer (some ⟨hb, 0, none⟩)), (12, .int .i64 page), (11, .pointer (some ⟨sb, 0, none⟩)), (10, .pointer (some ⟨sb, 0, none⟩)), (9, .bool !true), (8, .bool true), (7, .agg #[.int .i64 h.pages, .int .i64 h.kind, .int .u64 h.owner, .int .u64 h.next]), (6, .int .i64 0), (5, .pointer (some ⟨hb, 0, none⟩)), (0, .pointer (some ⟨sb, 0, none⟩)), (1, .int .i64 page), (2, .agg #[.int .i64 h.pages, .int .i64 h.kind, .int .u64 h.owner, .int .u64 h.next])]) (fun b14 b22 b23 b28 b29 => Sl (eI .u64) (some ⟨b22, 0, none⟩) [h.pages, h.kind].length [h.pages, h.kind] :: Sl (eI .u8) (some ⟨b14, 0, none⟩) magicB.length magicB :: Spc sb P m :: pt hb (.cells [.int .i64 h.pages, .int .i64 h.kind, .int .u64 h.owner, .int .u64 h.next].toArray 267 (0, 0)) :: F) ?_ (fun s4_12 => ?_)
  · intro b14 b22 b23 b28 b29
    refine XD_three (h := ?_) (h' := ?_) (h2 := ?_)
    · refine XDa_dvA (dv_call hat) (hk := ?_)
      rintro _ _ ⟨_, ⟨rfl, rfl⟩, rfl⟩
      refine ⟨by (repeat (first | exact keeps_nil | exact keeps_fnil | refine keeps_skip (h := ?_) | refine keeps_takeQ (h := ?_))), ?_⟩
      exact XD_perm2 (s3_4_12 b14 b22 b23 b28 b29)
    · refine XDa_dvA (dv_convSl) (hk := ?_)
      rintro _ _ ⟨rfl, rfl⟩
      refine ⟨by (repeat (first | exact keeps_nil | exact keeps_fnil | refine keeps_skip (h := ?_) | refine keeps_takeQ (h := ?_))), ?_⟩
      exact XD_perm2 (s4_5_12 b14 b22 b23 b28 b29)
    · refine XDa_dvA (dv_lit (E' := eI .u64) [h.owner, h.next]) (hk := ?_)
      rintro _ _ ⟨b28, rfl, rfl⟩
      refine ⟨by (repeat (first | exact keeps_nil | exact keeps_fnil | refine keeps_skip (h := ?_) | refine keeps_takeQ (h := ?_))), ?_⟩
      exact XD_perm2 (s4_12_18 b14 b22 b23 b28 b29)
  refine XD_cut5 [(11, .int .u64 h.kind, true), (10, .int .i64 h.kind, false), (9, .pointer (some ⟨hb, 1, none⟩), true), (8, .int .u64 h.pages, true), (7, .int .i64 h.pages, false), (6, .pointer (some ⟨hb, 0, none⟩), true), (2, .int .i64 page, true), (1, .pointer (some ⟨sb, 0, none⟩), true), (0, .pointer (some ⟨sb, 0, none⟩), true)] [18, 4, 17, 16, 15, 14, 11, 10, 9, 8, 7, 6, 2, 1, 0] (fun b14 b22 b23 b28 b29 => [(28, .slice (some ⟨b28, 0, none⟩) [h.owner, h.next].length [h.owner, h.next].length), (14, .slice (some ⟨b14, 0, none⟩) magicB.length magicB.length), (27, .int .u64 h.next), (26, .pointer (some ⟨hb, 3, none⟩)), (25, .int .u64 h.owner), (24, .pointer (some ⟨hb, 2, none⟩)), (21, .int .u64 h.kind), (20, .int .i64 h.kind), (19, .pointer (some ⟨hb, 1, none⟩)), (18, .int .u64 h.pages), (17, .int .i64 h.pages), (16, .pointer (some ⟨hb, 0, none⟩)), (12, .int .i64 page), (11, .pointer (some ⟨sb, 0, none⟩)), (10, .pointer (some ⟨sb, 0, none⟩)), (9, .bool !true), (8, .bool true), (7, .agg #[.int .i64 h.pages, .int .i64 h.kind, .int .u64 h.owner, .int .u64 h.next]), (6, .int .i64 0), (5, .pointer (some ⟨hb, 0, none⟩)), (0, .pointer (some ⟨sb, 0, none⟩)), (1, .int .i64 page), (2, .agg #[.int .i64 h.pages, .int .i64 h.kind, .int .u64 h.owner, .int .u64 h.next])]) (fun b14 b22 b23 b28 b29 => Sl (eI .u64) (some ⟨b28, 0, none⟩) [h.owner, h.next].length [h.owner, h.next] :: Sl (eI .u8) (some ⟨b14, 0, none⟩) magicB.length magicB :: Spc sb P m :: pt hb (.cells [.int .i64 h.pages, .int .i64 h.kind, .int .u64 h.owner, .int .u64 h.next].toArray 267 (0, 0)) :: F) ?_ (fun s4_18 => ?_)
  · intro b14 b22 b23 b28 b29
    refine XD_three (h := ?_) (h' := ?_) (h2 := ?_)
    · refine XDa_dvA (dv_call hat) (hk := ?_)
      rintro _ _ ⟨_, ⟨rfl, rfl⟩, rfl⟩
      refine ⟨by (repeat (first | exact keeps_nil | exact keeps_fnil | refine keeps_skip (h := ?_) | refine keeps_takeQ (h := ?_))), ?_⟩
      exact XD_perm2 (s3_4_18 b14 b22 b23 b28 b29)
    · refine XDa_dvA (dv_convSl) (hk := ?_)
      rintro _ _ ⟨rfl, rfl⟩
      refine ⟨by (repeat (first | exact keeps_nil | exact keeps_fnil | refine keeps_skip (h := ?_) | refine keeps_takeQ (h := ?_))), ?_⟩
      exact XD_perm2 (s4_5_18 b14 b22 b23 b28 b29)
    · refine XDa_dvA (dv_lit (E' := eI .u64) [h.pages, h.kind]) (hk := ?_)
      rintro _ _ ⟨b22, rfl, rfl⟩
      refine ⟨by (repeat (first | exact keeps_nil | exact keeps_fnil | refine keeps_skip (h := ?_) | refine keeps_takeQ (h := ?_))), ?_⟩
      exact XD_perm2 (s4_12_18 b14 b22 b23 b28 b29)
  refine XD_cut5 [(2, .int .i64 page, true), (1, .pointer (some ⟨sb, 0, none⟩), true), (0, .pointer (some ⟨sb, 0, none⟩), true)] [18, 12, 17, 16, 15, 14, 11, 10, 9, 8, 7, 6, 2, 1, 0] (fun b14 b22 b23 b28 b29 => [(28, .slice (some ⟨b28, 0, none⟩) [h.owner, h.next].length [h.owner, h.next].length), (22, .slice (some ⟨b22, 0, none⟩) [h.pages, h.kind].length [h.pages, h.kind].length), (27, .int .u64 h.next), (26, .pointer (some ⟨hb, 3, none⟩)), (25, .int .u64 h.owner), (24, .pointer (some ⟨hb, 2, none⟩)), (21, .int .u64 h.kind), (20, .int .i64 h.kind), (19, .pointer (some ⟨hb, 1, none⟩)), (18, .int .u64 h.pages), (17, .int .i64 h.pages), (16, .pointer (some ⟨hb, 0, none⟩)), (12, .int .i64 page), (11, .pointer (some ⟨sb, 0, none⟩)), (10, .pointer (some ⟨sb, 0, none⟩)), (9, .bool !true), (8, .bool true), (7, .agg #[.int .i64 h.pages, .int .i64 h.kind, .int .u64 h.owner, .int .u64 h.next]), (6, .int .i64 0), (5, .pointer (some ⟨hb, 0, none⟩)), (0, .pointer (some ⟨sb, 0, none⟩)), (1, .int .i64 page), (2, .agg #[.int .i64 h.pages, .int .i64 h.kind, .int .u64 h.owner, .int .u64 h.next])]) (fun b14 b22 b23 b28 b29 => Sl (eI .u64) (some ⟨b28, 0, none⟩) [h.owner, h.next].length [h.owner, h.next] :: Sl (eI .u64) (some ⟨b22, 0, none⟩) [h.pages, h.kind].length [h.pages, h.kind] :: Spc sb P m :: pt hb (.cells [.int .i64 h.pages, .int .i64 h.kind, .int .u64 h.owner, .int .u64 h.next].toArray 267 (0, 0)) :: F) ?_ (fun s12_18 => ?_)
  · intro b14 b22 b23 b28 b29
    refine XD_two (h := ?_) (h' := ?_)
    · refine XDa_dvA (dv_call hat) (hk := ?_)
      rintro _ _ ⟨_, ⟨rfl, rfl⟩, rfl⟩
      refine ⟨by (repeat (first | exact keeps_nil | exact keeps_fnil | refine keeps_skip (h := ?_) | refine keeps_takeQ (h := ?_))), ?_⟩
      exact XD_perm2 (s3_12_18 b14 b22 b23 b28 b29)
    · refine XDa_dvA (dv_lit (E' := eI .u8) magicB) (hk := ?_)
      rintro _ _ ⟨b14, rfl, rfl⟩
      refine ⟨by (repeat (first | exact keeps_nil | exact keeps_fnil | refine keeps_skip (h := ?_) | refine keeps_takeQ (h := ?_))), ?_⟩
      exact XD_perm2 (s4_12_18 b14 b22 b23 b28 b29)
  refine XD_cut5 [(17, .int .u64 h.next, false), (16, .pointer (some ⟨hb, 3, none⟩), true), (15, .int .u64 h.owner, false), (14, .pointer (some ⟨hb, 2, none⟩), true), (11, .int .u64 h.kind, true), (10, .int .i64 h.kind, false), (9, .pointer (some ⟨hb, 1, none⟩), true), (8, .int .u64 h.pages, true), (7, .int .i64 h.pages, false), (6, .pointer (some ⟨hb, 0, none⟩), true), (0, .pointer (some ⟨sb, 0, none⟩), true)] [3, 17, 16, 15, 14, 11, 10, 9, 8, 7, 6, 2, 1, 0] (fun b14 b22 b23 b28 b29 => [(13, .int .u64 (page * 4096)), (27, .int .u64 h.next), (26, .pointer (some ⟨hb, 3, none⟩)), (25, .int .u64 h.owner), (24, .pointer (some ⟨hb, 2, none⟩)), (21, .int .u64 h.kind), (20, .int .i64 h.kind), (19, .pointer (some ⟨hb, 1, none⟩)), (18, .int .u64 h.pages), (17, .int .i64 h.pages), (16, .pointer (some ⟨hb, 0, none⟩)), (12, .int .i64 page), (11, .pointer (some ⟨sb, 0, none⟩)), (10, .pointer (some ⟨sb, 0, none⟩)), (9, .bool !true), (8, .bool true), (7, .agg #[.int .i64 h.pages, .int .i64 h.kind, .int .u64 h.owner, .int .u64 h.next]), (6, .int .i64 0), (5, .pointer (some ⟨hb, 0, none⟩)), (0, .pointer (some ⟨sb, 0, none⟩)), (1, .int .i64 page), (2, .agg #[.int .i64 h.pages, .int .i64 h.kind, .int .u64 h.owner, .int .u64 h.next])]) (fun b14 b22 b23 b28 b29 => Spc sb P m :: pt hb (.cells [.int .i64 h.pages, .int .i64 h.kind, .int .u64 h.owner, .int .u64 h.next].toArray 267 (0, 0)) :: F) ?_ (fun s3 => ?_)
  · intro b14 b22 b23 b28 b29
    refine XD_three (h := ?_) (h' := ?_) (h2 := ?_)
    · refine XDa_dvA (dv_lit (E' := eI .u8) magicB) (hk := ?_)
      rintro _ _ ⟨b14, rfl, rfl⟩
      refine ⟨by (repeat (first | exact keeps_nil | exact keeps_fnil | refine keeps_skip (h := ?_) | refine keeps_takeQ (h := ?_))), ?_⟩
      exact XD_perm2 (s3_4 b14 b22 b23 b28 b29)
    · refine XDa_dvA (dv_lit (E' := eI .u64) [h.pages, h.kind]) (hk := ?_)
      rintro _ _ ⟨b22, rfl, rfl⟩
      refine ⟨by (repeat (first | exact keeps_nil | exact keeps_fnil | refine keeps_skip (h := ?_) | refine keeps_takeQ (h := ?_))), ?_⟩
      exact XD_perm2 (s3_12 b14 b22 b23 b28 b29)
    · refine XDa_dvA (dv_lit (E' := eI .u64) [h.owner, h.next]) (hk := ?_)
      rintro _ _ ⟨b28, rfl, rfl⟩
      refine ⟨by (repeat (first | exact keeps_nil | exact keeps_fnil | refine keeps_skip (h := ?_) | refine keeps_takeQ (h := ?_))), ?_⟩
      exact XD_perm2 (s3_18 b14 b22 b23 b28 b29)
  refine XD_cut5 [(17, .int .u64 h.next, false), (16, .pointer (some ⟨hb, 3, none⟩), true), (15, .int .u64 h.owner, false), (14, .pointer (some ⟨hb, 2, none⟩), true), (11, .int .u64 h.kind, true), (10, .int .i64 h.kind, false), (9, .pointer (some ⟨hb, 1, none⟩), true), (8, .int .u64 h.pages, true), (7, .int .i64 h.pages, false), (6, .pointer (some ⟨hb, 0, none⟩), true), (2, .int .i64 page, true), (1, .pointer (some ⟨sb, 0, none⟩), true), (0, .pointer (some ⟨sb, 0, none⟩), true)] [4, 17, 16, 15, 14, 11, 10, 9, 8, 7, 6, 2, 1, 0] (fun b14 b22 b23 b28 b29 => [(14, .slice (some ⟨b14, 0, none⟩) magicB.length magicB.length), (27, .int .u64 h.next), (26, .pointer (some ⟨hb, 3, none⟩)), (25, .int .u64 h.owner), (24, .pointer (some ⟨hb, 2, none⟩)), (21, .int .u64 h.kind), (20, .int .i64 h.kind), (19, .pointer (some ⟨hb, 1, none⟩)), (18, .int .u64 h.pages), (17, .int .i64 h.pages), (16, .pointer (some ⟨hb, 0, none⟩)), (12, .int .i64 page), (11, .pointer (some ⟨sb, 0, none⟩)), (10, .pointer (some ⟨sb, 0, none⟩)), (9, .bool !true), (8, .bool true), (7, .agg #[.int .i64 h.pages, .int .i64 h.kind, .int .u64 h.owner, .int .u64 h.next]), (6, .int .i64 0), (5, .pointer (some ⟨hb, 0, none⟩)), (0, .pointer (some ⟨sb, 0, none⟩)), (1, .int .i64 page), (2, .agg #[.int .i64 h.pages, .int .i64 h.kind, .int .u64 h.owner, .int .u64 h.next])]) (fun b14 b22 b23 b28 b29 => Sl (eI .u8) (some ⟨b14, 0, none⟩) magicB.length magicB :: Spc sb P m :: pt hb (.cells [.int .i64 h.pages, .int .i64 h.kind, .int .u64 h.owner, .int .u64 h.next].toArray 267 (0, 0)) :: F) ?_ (fun s4 => ?_)
  · intro b14 b22 b23 b28 b29
    refine XD_four (h := ?_) (h' := ?_) (h2 := ?_) (h3 := ?_)
    · refine XDa_dvA (dv_call hat) (hk := ?_)
      rintro _ _ ⟨_, ⟨rfl, rfl⟩, rfl⟩
      refine ⟨by (repeat (first | exact keeps_nil | exact keeps_fnil | refine keeps_skip (h := ?_) | refine keeps_takeQ (h := ?_))), ?_⟩
      exact XD_perm2 (s3_4 b14 b22 b23 b28 b29)
    · refine XDa_dvA (dv_convSl) (hk := ?_)
      rintro _ _ ⟨rfl, rfl⟩
      refine ⟨by (repeat (first | exact keeps_nil | exact keeps_fnil | refine keeps_skip (h := ?_) | refine keeps_takeQ (h := ?_))), ?_⟩
      exact XD_perm2 (s4_5 b14 b22 b23 b28 b29)
    · refine XDa_dvA (dv_lit (E' := eI .u64) [h.pages, h.kind]) (hk := ?_)
      rintro _ _ ⟨b22, rfl, rfl⟩
      refine ⟨by (repeat (first | exact keeps_nil | exact keeps_fnil | refine keeps_skip (h := ?_) | refine keeps_takeQ (h := ?_))), ?_⟩
      exact XD_perm2 (s4_12 b14 b22 b23 b28 b29)
    · refine XDa_dvA (dv_lit (E' := eI .u64) [h.owner, h.next]) (hk := ?_)
      rintro _ _ ⟨b28, rfl, rfl⟩
      refine ⟨by (repeat (first | exact keeps_nil | exact keeps_fnil | refine keeps_skip (h := ?_) | refine keeps_takeQ (h := ?_))), ?_⟩
      exact XD_perm2 (s4_18 b14 b22 b23 b28 b29)
  refine XD_cut5 [(17, .int .u64 h.next, false), (16, .pointer (some ⟨hb, 3, none⟩), true), (15, .int .u64 h.owner, false), (14, .pointer (some ⟨hb, 2, none⟩), true), (2, .int .i64 page, true), (1, .pointer (some ⟨sb, 0, none⟩), true), (0, .pointer (some ⟨sb, 0, none⟩), true)] [12, 17, 16, 15, 14, 11, 10, 9, 8, 7, 6, 2, 1, 0] (fun b14 b22 b23 b28 b29 => [(22, .slice (some ⟨b22, 0, none⟩) [h.pages, h.kind].length [h.pages, h.kind].length), (27, .int .u64 h.next), (26, .pointer (some ⟨hb, 3, none⟩)), (25, .int .u64 h.owner), (24, .pointer (some ⟨hb, 2, none⟩)), (21, .int .u64 h.kind), (20, .int .i64 h.kind), (19, .pointer (some ⟨hb, 1, none⟩)), (18, .int .u64 h.pages), (17, .int .i64 h.pages), (16, .pointer (some ⟨hb, 0, none⟩)), (12, .int .i64 page), (11, .pointer (some ⟨sb, 0, none⟩)), (10, .pointer (some ⟨sb, 0, none⟩)), (9, .bool !true), (8, .bool true), (7, .agg #[.int .i64 h.pages, .int .i64 h.kind, .int .u64 h.owner, .int .u64 h.next]), (6, .int .i64 0), (5, .pointer (some ⟨hb, 0, none⟩)), (0, .pointer (some ⟨sb, 0, none⟩)), (1, .int .i64 page), (2, .agg #[.int .i64 h.pages, .int .i64 h.kind, .int .u64 h.owner, .int .u64 h.next])]) (fun b14 b22 b23 b28 b29 => Sl (eI .u64) (some ⟨b22, 0, none⟩) [h.pages, h.kind].length [h.pages, h.kind] :: Spc sb P m :: pt hb (.cells [.int .i64 h.pages, .int .i64 h.kind, .int .u64 h.owner, .int .u64 h.next].toArray 267 (0, 0)) :: F) ?_ (fun s12 => ?_)
  · intro b14 b22 b23 b28 b29
    refine XD_three (h := ?_) (h' := ?_) (h2 := ?_)
    · refine XDa_dvA (dv_call hat) (hk := ?_)
      rintro _ _ ⟨_, ⟨rfl, rfl⟩, rfl⟩
      refine ⟨by (repeat (first | exact keeps_nil | exact keeps_fnil | refine keeps_skip (h := ?_) | refine keeps_takeQ (h := ?_))), ?_⟩
      exact XD_perm2 (s3_12 b14 b22 b23 b28 b29)
    · refine XDa_dvA (dv_lit (E' := eI .u8) magicB) (hk := ?_)
      rintro _ _ ⟨b14, rfl, rfl⟩
      refine ⟨by (repeat (first | exact keeps_nil | exact keeps_fnil | refine keeps_skip (h := ?_) | refine keeps_takeQ (h := ?_))), ?_⟩
      exact XD_perm2 (s4_12 b14 b22 b23 b28 b29)
    · refine XDa_dvA (dv_lit (E' := eI .u64) [h.owner, h.next]) (hk := ?_)
      rintro _ _ ⟨b28, rfl, rfl⟩
      refine ⟨by (repeat (first | exact keeps_nil | exact keeps_fnil | refine keeps_skip (h := ?_) | refine keeps_takeQ (h := ?_))), ?_⟩
      exact XD_perm2 (s12_18 b14 b22 b23 b28 b29)
  refine XD_cut5 [(11, .int .u64 h.kind, true), (10, .int .i64 h.kind, false), (9, .pointer (some ⟨hb, 1, none⟩), true), (8, .int .u64 h.pages, true), (7, .int .i64 h.pages, false), (6, .pointer (some ⟨hb, 0, none⟩), true), (2, .int .i64 page, true), (1, .pointer (some ⟨sb, 0, none⟩), true), (0, .pointer (some ⟨sb, 0, none⟩), true)] [18, 17, 16, 15, 14, 11, 10, 9, 8, 7, 6, 2, 1, 0] (fun b14 b22 b23 b28 b29 => [(28, .slice (some ⟨b28, 0, none⟩) [h.owner, h.next].length [h.owner, h.next].length), (27, .int .u64 h.next), (26, .pointer (some ⟨hb, 3, none⟩)), (25, .int .u64 h.owner), (24, .pointer (some ⟨hb, 2, none⟩)), (21, .int .u64 h.kind), (20, .int .i64 h.kind), (19, .pointer (some ⟨hb, 1, none⟩)), (18, .int .u64 h.pages), (17, .int .i64 h.pages), (16, .pointer (some ⟨hb, 0, none⟩)), (12, .int .i64 page), (11, .pointer (some ⟨sb, 0, none⟩)), (10, .pointer (some ⟨sb, 0, none⟩)), (9, .bool !true), (8, .bool true), (7, .agg #[.int .i64 h.pages, .int .i64 h.kind, .int .u64 h.owner, .int .u64 h.next]), (6, .int .i64 0), (5, .pointer (some ⟨hb, 0, none⟩)), (0, .pointer (some ⟨sb, 0, none⟩)), (1, .int .i64 page), (2, .agg #[.int .i64 h.pages, .int .i64 h.kind, .int .u64 h.owner, .int .u64 h.next])]) (fun b14 b22 b23 b28 b29 => Sl (eI .u64) (some ⟨b28, 0, none⟩) [h.owner, h.next].length [h.owner, h.next] :: Spc sb P m :: pt hb (.cells [.int .i64 h.pages, .int .i64 h.kind, .int .u64 h.owner, .int .u64 h.next].toArray 267 (0, 0)) :: F) ?_ (fun s18 => ?_)
  · intro b14 b22 b23 b28 b29
    refine XD_three (h := ?_) (h' := ?_) (h2 := ?_)
    · refine XDa_dvA (dv_call hat) (hk := ?_)
      rintro _ _ ⟨_, ⟨rfl, rfl⟩, rfl⟩
      refine ⟨by (repeat (first | exact keeps_nil | exact keeps_fnil | refine keeps_skip (h := ?_) | refine keeps_takeQ (h := ?_))), ?_⟩
      exact XD_perm2 (s3_18 b14 b22 b23 b28 b29)
    · refine XDa_dvA (dv_lit (E' := eI .u8) magicB) (hk := ?_)
      rintro _ _ ⟨b14, rfl, rfl⟩
      refine ⟨by (repeat (first | exact keeps_nil | exact keeps_fnil | refine keeps_skip (h := ?_) | refine keeps_takeQ (h := ?_))), ?_⟩
      exact XD_perm2 (s4_18 b14 b22 b23 b28 b29)
    · refine XDa_dvA (dv_lit (E' := eI .u64) [h.pages, h.kind]) (hk := ?_)
      rintro _ _ ⟨b22, rfl, rfl⟩
      refine ⟨by (repeat (first | exact keeps_nil | exact keeps_fnil | refine keeps_skip (h := ?_) | refine keeps_takeQ (h := ?_))), ?_⟩
      exact XD_perm2 (s12_18 b14 b22 b23 b28 b29)
  have b14 := 0
  have b22 := 0
  have b23 := 0
  have b28 := 0
  have b29 := 0
  refine XD_four (h := ?_) (h' := ?_) (h2 := ?_) (h3 := ?_)
  · refine XDa_dvA (dv_call hat) (hk := ?_)
    rintro _ _ ⟨_, ⟨rfl, rfl⟩, rfl⟩
    refine ⟨by (repeat (first | exact keeps_nil | exact keeps_fnil | refine keeps_skip (h := ?_) | refine keeps_takeQ (h := ?_))), ?_⟩
    exact XD_perm2 (s3 b14 b22 b23 b28 b29)
  · refine XDa_dvA (dv_lit (E' := eI .u8) magicB) (hk := ?_)
    rintro _ _ ⟨b14, rfl, rfl⟩
    refine ⟨by (repeat (first | exact keeps_nil | exact keeps_fnil | refine keeps_skip (h := ?_) | refine keeps_takeQ (h := ?_))), ?_⟩
    exact XD_perm2 (s4 b14 b22 b23 b28 b29)
  · refine XDa_dvA (dv_lit (E' := eI .u64) [h.pages, h.kind]) (hk := ?_)
    rintro _ _ ⟨b22, rfl, rfl⟩
    refine ⟨by (repeat (first | exact keeps_nil | exact keeps_fnil | refine keeps_skip (h := ?_) | refine keeps_takeQ (h := ?_))), ?_⟩
    exact XD_perm2 (s12 b14 b22 b23 b28 b29)
  · refine XDa_dvA (dv_lit (E' := eI .u64) [h.owner, h.next]) (hk := ?_)
    rintro _ _ ⟨b28, rfl, rfl⟩
    refine ⟨by (repeat (first | exact keeps_nil | exact keeps_fnil | refine keeps_skip (h := ?_) | refine keeps_takeQ (h := ?_))), ?_⟩
    exact XD_perm2 (s18 b14 b22 b23 b28 b29)
end Go.Proofs.YtamecmklcnohjaaGreat.Sep
