import Derived.Test.YtamecmklcnohjaaGreatBn7
import Derived.Test.YtamecmklcnohjaaGreatBn4
/- What the laws share: a separation logic over the model, and what the program's functions do, by it. Part 8 of 14: LedG LedT LedE LedI SepH LedK. -/
namespace Go.Proofs.YtamecmklcnohjaaGreat.Sep
open Go.RowKit
set_option linter.unusedSimpArgs false
set_option linter.unusedVariables false
attribute [local irreducible] Core Shd Shs

theorem Lg.back {l mb b : Nat} {C' : Co} {rg : List (Int × Sh)} {id : Int} {s : Sh} (s' : Sh) {M1 M2 : List (Int × Nat × Sh)} (hM : rgs (M1 ++ (id, b, s) :: M2) = rg) (hn : lk M1 id = none) : ∀ H, SL [Core l mb C', Mp idE ptV mb (blk (M1 ++ (id, b, s) :: M2)), Shd b s', Shs (M1 ++ M2)] H → Lg l C' (ins rg id s') H := by
  intro H h
  have h1 : ins rg id s' = rgs (M1 ++ (id, b, s') :: M2) := by
    rw [← hM]
    have : rgs (M1 ++ (id, b, s) :: M2) = rgs M1 ++ (id, s) :: rgs M2 := by simp [rgs]
    rw [this, ins_split (by rw [lk_rgs, hn]; rfl)]
    simp [rgs]
  rw [h1]
  refine Lg.fold (mb := mb) (M := M1 ++ (id, b, s') :: M2) rfl H ?_
  have h2 : blk (M1 ++ (id, b, s') :: M2) = blk (M1 ++ (id, b, s) :: M2) := by simp [blk]
  rw [h2]
  obtain ⟨H1, H2, d, u, hA, H3, H4, d', u', hB, hC⟩ := h
  refine ⟨H1, H2, d, u, hA, H3, H4, d', u', hB, ?_⟩
  exact ⟨H4, fun _ => none, fun _ => .inr rfl, fun _ => by simp, Shs.back H4 hC, trivial⟩
attribute [local irreducible] Lg
def allocV (l : Nat) (C : Co) (rg : List (Int × Sh)) (id size align : Int) : Option Sh → Value → List HP → Prop
  | none => fun v L => v = .int .i64 2 ∧ L = [Lg l C rg]
  | some s => fun v L => v = .int .i64 (allocS C s size align).2 ∧ L = [Lg l (allocS C s size align).1.1 (ins rg id (allocS C s size align).1.2)]
theorem allocV_eq {l : Nat} {C : Co} {rg : List (Int × Sh)} {id size align : Int} {s : Sh} {R : (Co × Sh) × Int} (h : allocS C s size align = R) : allocV l C rg id size align (some s) = fun v L => v = .int .i64 R.2 ∧ L = [Lg l R.1.1 (ins rg id R.1.2)] := by subst h; rfl
set_option maxHeartbeats 8000000
attribute [local irreducible] X XE XO XD XDi XDa PV RV DV pt base Spec Sl Mp Keeps Pg Kc

theorem alloc_spec (l : Nat) (C : Co) (rg : List (Int × Sh)) (id size align : Int) (hC : CoOk C) (hS : ∀ q ∈ rg, ShOk q.2 ∧ q.2.parts.length ≤ 1048576 ∧ q.2.larges.length ≤ 1048576) (h0 : 0 ≤ size) (h1 : size ≤ 18446744073709551615) (h2 : 0 ≤ align) (h3 : align ≤ 18446744073709551615) :
    Spec Tryz.prog 19 [.pointer (some ⟨l, 0, none⟩), .int .u64 id, .int .u64 size, .int .u64 align] [Lg l C rg] (allocV l C rg id size align (lk rg id)) := by
  refine Spec.intro (IsEnt.out) Tryz.func19 rfl Tryz.ntmps19 (by simp) (fun w0 F => ?_)
  simp only [envOf, List.zipIdx, List.map, List.cons_append, List.nil_append, Nat.zero_add, Nat.reduceAdd]
  refine X_open .here Lg.open ?_
  rintro ⟨mb, M⟩ hM
  dsimp only [List.cons_append, List.nil_append] at hM ⊢
  repeat (first | refine Zq ?_ | refine Zs ?_ | refine ZT ?_ | refine ZF ?_ | refine Zc ?_ | refine XO_gU (hk := ?_))
  refine XO_call (of_spec l mb C (blk M) id) (hk := ?_)
  rintro _ _ ⟨rfl, rfl⟩
  rw [lk_blk]
  repeat (first | refine Zq ?_ | refine Zs ?_ | refine ZT ?_ | refine ZF ?_ | refine Zc ?_ | refine XO_gU (hk := ?_))
  refine XO_call (need_spec 1 align (by decide) (by decide) h2 h3) (hk := ?_)
  rintro _ _ ⟨rfl, rfl⟩
  cases hk : lk M id with
  | none =>
    have hrg : lk rg id = none := by rw [← hM, lk_rgs, hk]; rfl
    rw [hrg]
    simp only [Option.map_none, Option.getD_none, ptV]
    repeat (first | refine Zq ?_ | refine Zs ?_ | refine ZT ?_ | refine ZF ?_ | refine Zc ?_ | refine XO_gU (hk := ?_))
    refine X_cond rfl (fun _ => ?_) (fun h => by cases h)
    repeat (first | refine Zq ?_ | refine Zs ?_ | refine ZT ?_ | refine ZF ?_ | refine Zc ?_ | refine XO_gU (hk := ?_))
    refine XE_fold (by repeat (first | exact FindAll.nil | exact Find.here | apply Find.there | apply FindAll.cons)) (Lg.fold hM) ?_
    refine XE_ret (.inl rfl) (tells_tmps rfl rfl) ⟨_, ⟨rfl, rfl⟩, by ((try simp only [List.cons_append, List.nil_append]); repeat (first | exact ent_refl | refine ent_take (by repeat (first | exact Find.here | apply Find.there)) ?_ | refine ent_drop ?_))⟩
  | some q =>
    obtain ⟨b, s⟩ := q
    have hrg : lk rg id = some s := by rw [← hM, lk_rgs, hk]; rfl
    rw [hrg]
    obtain ⟨M1, M2, rfl, hn1⟩ := lk_split hk
    obtain ⟨hs1, hs2, hs3⟩ := hS (id, s) (by rw [← hM]; simp [rgs])
    dsimp only at hs1 hs2 hs3
    have htb := top_bd hs1
    simp only [Option.map_some, Option.getD_some, ptV]
    repeat (first | refine Zq ?_ | refine Zs ?_ | refine ZT ?_ | refine ZF ?_ | refine Zc ?_ | refine XO_gU (hk := ?_))
    refine X_cond rfl (fun h => by cases h) (fun _ => ?_)
    by_cases hbad : size = 0 ∨ (needI 1 align).isSome = false
    · have hA : allocS C s size align = ((C, s), 1) := by unfold allocS; rw [if_pos hbad]
      rw [allocV_eq hA]
      refine X_open (A := Shs (M1 ++ (id, b, s) :: M2)) (by (repeat (first | exact Find.here | apply Find.there))) Shs.out ?_
      rintro ⟨⟩ -
      dsimp only [List.cons_append, List.nil_append]
      repeat (first | refine Zq ?_ | refine Zs ?_ | refine ZT ?_ | refine ZF ?_ | refine Zc ?_ | refine XO_gU (hk := ?_))
      refine XO_either (hT := fun h => ?_) (hF := fun h => ?_)
      · repeat (first | refine Zq ?_ | refine Zs ?_ | refine ZT ?_ | refine ZF ?_ | refine Zc ?_ | refine XO_gU (hk := ?_))
        refine X_cond rfl (fun _ => ?_) (fun h => by cases h)
        repeat (first | refine Zq ?_ | refine Zs ?_ | refine ZT ?_ | refine ZF ?_ | refine Zc ?_ | refine XO_gU (hk := ?_))
        refine XE_fold (by repeat (first | exact FindAll.nil | exact Find.here | apply Find.there | apply FindAll.cons)) (Lg.back s hM hn1) ?_
        refine XE_ret (.inl rfl) (tells_tmps rfl rfl) ⟨_, ⟨rfl, rfl⟩, by ((try simp only [List.cons_append, List.nil_append]); repeat (first | exact ent_refl | refine ent_take (by repeat (first | exact Find.here | apply Find.there)) ?_ | refine ent_drop ?_))⟩
      · have hsm : (needI 1 align).isSome = false := by
          rcases hbad with h' | h'
          · exact absurd h' (by simpa using h)
          · exact h'
        rw [hsm]
        repeat (first | refine Zq ?_ | refine Zs ?_ | refine ZT ?_ | refine ZF ?_ | refine Zc ?_ | refine XO_gU (hk := ?_))
        refine X_cond rfl (fun _ => ?_) (fun h => by cases h)
        repeat (first | refine Zq ?_ | refine Zs ?_ | refine ZT ?_ | refine ZF ?_ | refine Zc ?_ | refine XO_gU (hk := ?_))
        refine XE_fold (by repeat (first | exact FindAll.nil | exact Find.here | apply Find.there | apply FindAll.cons)) (Lg.back s hM hn1) ?_
        refine XE_ret (.inl rfl) (tells_tmps rfl rfl) ⟨_, ⟨rfl, rfl⟩, by ((try simp only [List.cons_append, List.nil_append]); repeat (first | exact ent_refl | refine ent_take (by repeat (first | exact Find.here | apply Find.there)) ?_ | refine ent_drop ?_))⟩
    have hbad' := hbad
    rw [not_or] at hbad
    obtain ⟨hsz, hsm⟩ := hbad
    have hsm : (needI 1 align).isSome = true := by revert hsm; cases (needI 1 align).isSome <;> simp
    rw [hsm]
    repeat (first | refine Zq ?_ | refine Zs ?_ | refine ZT ?_ | refine ZF ?_ | refine Zc ?_ | refine XO_gU (hk := ?_))
    refine XO_known false (hb := by simpa using hsz) (hk := ?_)
    repeat (first | refine Zq ?_ | refine Zs ?_ | refine ZT ?_ | refine ZF ?_ | refine Zc ?_ | refine XO_gU (hk := ?_))
    refine X_cond rfl (fun h => by cases h) (fun _ => ?_)
    refine X_open (A := Shs (M1 ++ (id, b, s) :: M2)) (by (repeat (first | exact Find.here | apply Find.there))) Shs.out ?_
    rintro ⟨⟩ -
    dsimp only [List.cons_append, List.nil_append]
    repeat (first | refine Zq ?_ | refine Zs ?_ | refine ZT ?_ | refine ZF ?_ | refine Zc ?_ | refine XO_gU (hk := ?_))
    refine XO_call (top_spec b s (by omega)) (hk := ?_)
    rintro _ _ ⟨cb, o, A, G, a, a', c, c', rfl, hCur, hfold, rfl⟩
    repeat (first | refine Zq ?_ | refine Zs ?_ | refine ZT ?_ | refine ZF ?_ | refine Zc ?_ | refine XO_gU (hk := ?_))
    refine XO_call (made_spec b cb o (topEnd s) A hCur a a' s.parts.length s.larges.length c c' s.obj s.pad (topAt s) size align htb.1 htb.2.1 htb.2.2.1 htb.2.2.2 h0 h1 h2 h3) (hk := ?_)
    intro v L' hpost
    cases hf : fitI (topAt s) (topEnd s) size align with
    | some q =>
      rw [hf] at hpost
      obtain ⟨rfl, rfl⟩ := hpost
      have hA : allocS C s size align = ((C, setTop s q.2.1 (IntKind.u64.wrap (s.obj + size)) (IntKind.u64.wrap (s.pad + q.2.2))), 0) := by
        unfold allocS madeS; rw [if_neg hbad', hf]; rfl
      rw [allocV_eq hA]
      refine XO_fold (by repeat (first | exact FindAll.nil | exact Find.here | apply Find.there | apply FindAll.cons)) (hfold q.2.1 _ _) ?_
      repeat (first | refine Zq ?_ | refine Zs ?_ | refine ZT ?_ | refine ZF ?_ | refine Zc ?_ | refine XO_gU (hk := ?_))
      refine X_cond rfl (fun _ => ?_) (fun h => by cases h)
      repeat (first | refine Zq ?_ | refine Zs ?_ | refine ZT ?_ | refine ZF ?_ | refine Zc ?_ | refine XO_gU (hk := ?_))
      refine XE_fold (by repeat (first | exact FindAll.nil | exact Find.here | apply Find.there | apply FindAll.cons)) (Lg.back _ hM hn1) ?_
      refine XE_ret (.inl rfl) (tells_tmps rfl rfl) ⟨_, ⟨rfl, rfl⟩, by ((try simp only [List.cons_append, List.nil_append]); repeat (first | exact ent_refl | refine ent_take (by repeat (first | exact Find.here | apply Find.there)) ?_ | refine ent_drop ?_))⟩
    | none =>
      rw [hf] at hpost
      obtain ⟨rfl, rfl⟩ := hpost
      have hmS : madeS s size align = none := by unfold madeS; rw [hf]; rfl
      refine XO_fold (by repeat (first | exact FindAll.nil | exact Find.here | apply Find.there | apply FindAll.cons)) (hfold (topAt s) s.obj s.pad) ?_
      rw [setTop_self]
      clear hCur hfold
      repeat (first | refine Zq ?_ | refine Zs ?_ | refine ZT ?_ | refine ZF ?_ | refine Zc ?_ | refine XO_gU (hk := ?_))
      refine X_cond rfl (fun h => by cases h) (fun _ => ?_)
      repeat (first | refine Zq ?_ | refine Zs ?_ | refine ZT ?_ | refine ZF ?_ | refine Zc ?_ | refine XO_gU (hk := ?_))
      refine XO_call (chunk_spec size align h0 h1 h2 h3) (hk := ?_)
      rintro _ _ ⟨rfl, rfl⟩
      have hA0 : allocS C s size align = if (chunkI size align).2.2 = false then ((C, s), 4) else growS C s size align (chunkI size align).1 (chunkI size align).2.1 := by
        conv => lhs; unfold allocS; rw [if_neg hbad', hmS]
      rw [allocV_eq hA0]
      clear hA0
      obtain ⟨n, big, ok⟩ := chunkI size align
      dsimp only
      cases ok with
      | false =>
        rw [if_pos rfl]
        repeat (first | refine Zq ?_ | refine Zs ?_ | refine ZT ?_ | refine ZF ?_ | refine Zc ?_ | refine XO_gU (hk := ?_))
        refine X_cond rfl (fun _ => ?_) (fun h => by cases h)
        repeat (first | refine Zq ?_ | refine Zs ?_ | refine ZT ?_ | refine ZF ?_ | refine Zc ?_ | refine XO_gU (hk := ?_))
        refine XE_fold (by repeat (first | exact FindAll.nil | exact Find.here | apply Find.there | apply FindAll.cons)) (Lg.back s hM hn1) ?_
        refine XE_ret (.inl rfl) (tells_tmps rfl rfl) ⟨_, ⟨rfl, rfl⟩, by ((try simp only [List.cons_append, List.nil_append]); repeat (first | exact ent_refl | refine ent_take (by repeat (first | exact Find.here | apply Find.there)) ?_ | refine ent_drop ?_))⟩
      | true =>
        rw [if_neg (by decide)]
        unfold growS
        repeat (first | refine Zq ?_ | refine Zs ?_ | refine ZT ?_ | refine ZF ?_ | refine Zc ?_ | refine XO_gU (hk := ?_))
        refine X_cond rfl (fun h => by cases h) (fun _ => ?_)
        repeat (first | refine Zq ?_ | refine Zs ?_ | refine ZT ?_ | refine ZF ?_ | refine Zc ?_ | refine XO_gU (hk := ?_))
        refine XO_call (get_spec l mb C n hC) (hk := ?_)
        rintro _ _ ⟨rfl, rfl⟩
        repeat (first | refine Zq ?_ | refine Zs ?_ | refine ZT ?_ | refine ZF ?_ | refine Zc ?_ | refine XO_gU (hk := ?_))
        refine XO_dv dv_alloc (hk := ?_)
        rintro _ _ ⟨b15, rfl, rfl⟩
        repeat (first | refine Zq ?_ | refine Zs ?_ | refine ZT ?_ | refine ZF ?_ | refine Zc ?_ | refine XO_gU (hk := ?_))
        refine XO_dv0 dv_storeW (hk := ?_)
        rintro _ _ rfl
        by_cases he : (getC C n).2.2 = 0
        · rw [if_pos he, he]
          repeat (first | refine Zq ?_ | refine Zs ?_ | refine ZT ?_ | refine ZF ?_ | refine Zc ?_ | refine XO_gU (hk := ?_))
          refine X_cond rfl (fun h => by cases h) (fun _ => ?_)
          repeat (first | refine Zq ?_ | refine Zs ?_ | refine ZT ?_ | refine ZF ?_ | refine Zc ?_ | refine XO_gU (hk := ?_))
          refine XO_call (bof_spec (getC C n).2.1 n) (hk := ?_)
          rintro _ _ ⟨rfl, rfl⟩
          have hob := ofI_bd (getC C n).2.1 n
          repeat (first | refine Zq ?_ | refine Zs ?_ | refine ZT ?_ | refine ZF ?_ | refine Zc ?_ | refine XO_gU (hk := ?_))
          refine XO_dv dv_alloc (hk := ?_)
          rintro _ _ ⟨b17, rfl, rfl⟩
          repeat (first | refine Zq ?_ | refine Zs ?_ | refine ZT ?_ | refine ZF ?_ | refine Zc ?_ | refine XO_gU (hk := ?_))
          refine XO_dv0 dv_storeW (hk := ?_)
          rintro _ _ rfl
          repeat (first | refine Zq ?_ | refine Zs ?_ | refine ZT ?_ | refine ZF ?_ | refine Zc ?_ | refine XO_gU (hk := ?_))
          generalize (getC C n).2.1 = pg at hob ⊢
          generalize (getC C n).1 = C'
          cases big with
          | true =>
            rw [if_pos rfl]
            refine X_cond rfl (fun _ => ?_) (fun h => by cases h)
            refine X_open (A := Shd b s) (by (repeat (first | exact Find.here | apply Find.there))) Shd.open ?_
            rintro ⟨a, c, a', c'⟩ -
            dsimp only [List.cons_append, List.nil_append]
            repeat (first | refine Zq ?_ | refine Zs ?_ | refine ZT ?_ | refine ZF ?_ | refine Zc ?_ | refine XO_gU (hk := ?_))
            repeat (first | refine XD_pick (h := ?_) | refine Dq ?_ | refine Ds ?_ | refine XDi_gF (h := ?_) | refine XDi_gU (h := ?_) | refine X_draws (h := ?_))
            refine XD_one (h := ?_)
            refine XDa_dvA (dv_lit (E' := eRun) [(pg, n)]) (hk := ?_)
            rintro _ _ ⟨lb, rfl, rfl⟩
            refine ⟨by (repeat (first | exact keeps_nil | exact keeps_fnil | refine keeps_skip (h := ?_) | refine keeps_takeQ (h := ?_))), ?_⟩
            repeat (first | refine XD_pick (h := ?_) | refine Dq ?_ | refine Ds ?_ | refine XDi_gF (h := ?_) | refine XDi_gU (h := ?_) | refine X_draws (h := ?_))
            refine XD_one (h := ?_)
            refine XDa_dvA (dv_append (E' := eRun) (xs := s.larges) (ys := [(pg, n)]) (A := Sl eRun (some ⟨lb, 0, none⟩) 1 [(pg, n)]) (a := a') (a2 := some ⟨lb, 0, none⟩) (c := c') (c2 := 1) (hv := Sl.view) (hb := by simp; omega)) (hk := ?_)
            rintro _ _ ⟨a3, c3, rfl, rfl⟩
            refine ⟨by (repeat (first | exact keeps_nil | exact keeps_fnil | refine keeps_skip (h := ?_) | refine keeps_takeQ (h := ?_))), ?_⟩
            repeat (first | refine XD_pick (h := ?_) | refine Dq ?_ | refine Ds ?_ | refine XDi_gF (h := ?_) | refine XDi_gU (h := ?_) | refine X_draws (h := ?_))
            refine XD_one (h := ?_)
            refine XDa_dvk0 dv_store (K := _) (hk := ?_)
            rintro _ _ rfl
            refine ⟨by (repeat (first | exact keeps_nil | exact keeps_fnil | refine keeps_skip (h := ?_) | refine keeps_takeQ (h := ?_))), ?_⟩
            (refine XD_end (h := ?_); repeat (first | refine Zq ?_ | refine Zs ?_ | refine ZT ?_ | refine ZF ?_ | refine Zc ?_ | refine XO_gU (hk := ?_)))
            refine XO_call (made_spec b b17 0 (ofI pg n).2 (fun x => pt b17 (.cells [.int .u64 x, .int .u64 (ofI pg n).2].toArray 126 (0, 0))) (Cur.cell b17 _) a a3 s.parts.length (s.larges ++ [(pg, n)]).length c c3 s.obj s.pad (ofI pg n).1 size align hob.1 hob.2.1 hob.2.2.1 hob.2.2.2 h0 h1 h2 h3) (hk := ?_)
            intro v L' hpost
            cases hf2 : fitI (ofI pg n).1 (ofI pg n).2 size align with
            | none =>
              rw [hf2] at hpost
              obtain ⟨rfl, rfl⟩ := hpost
              repeat (first | refine Zq ?_ | refine Zs ?_ | refine ZT ?_ | refine ZF ?_ | refine Zc ?_ | refine XO_gU (hk := ?_))
              refine XE_fold (by repeat (first | exact FindAll.nil | exact Find.here | apply Find.there | apply FindAll.cons)) (Shd.fold (s := ⟨s.parts, s.larges ++ [(pg, n)], s.obj, s.pad⟩)) ?_
              refine XE_fold (by repeat (first | exact FindAll.nil | exact Find.here | apply Find.there | apply FindAll.cons)) (Lg.back _ hM hn1) ?_
              refine XE_ret (.inl rfl) (tells_tmps rfl rfl) ⟨_, ⟨rfl, rfl⟩, by ((try simp only [List.cons_append, List.nil_append]); repeat (first | exact ent_refl | refine ent_take (by repeat (first | exact Find.here | apply Find.there)) ?_ | refine ent_drop ?_))⟩
            | some q =>
              rw [hf2] at hpost
              obtain ⟨rfl, rfl⟩ := hpost
              repeat (first | refine Zq ?_ | refine Zs ?_ | refine ZT ?_ | refine ZF ?_ | refine Zc ?_ | refine XO_gU (hk := ?_))
              refine XE_fold (by repeat (first | exact FindAll.nil | exact Find.here | apply Find.there | apply FindAll.cons)) (Shd.fold (s := ⟨s.parts, s.larges ++ [(pg, n)], IntKind.u64.wrap (s.obj + size), IntKind.u64.wrap (s.pad + q.2.2)⟩)) ?_
              refine XE_fold (by repeat (first | exact FindAll.nil | exact Find.here | apply Find.there | apply FindAll.cons)) (Lg.back _ hM hn1) ?_
              refine XE_ret (.inl rfl) (tells_tmps rfl rfl) ⟨_, ⟨rfl, rfl⟩, by ((try simp only [List.cons_append, List.nil_append]); repeat (first | exact ent_refl | refine ent_take (by repeat (first | exact Find.here | apply Find.there)) ?_ | refine ent_drop ?_))⟩
          | false =>
            rw [if_neg (by decide)]
            refine X_cond rfl (fun h => by cases h) (fun _ => ?_)
            refine X_open (A := Shd b s) (by (repeat (first | exact Find.here | apply Find.there))) Shd.open ?_
            rintro ⟨a, c, a', c'⟩ -
            dsimp only [List.cons_append, List.nil_append]
            repeat (first | refine Zq ?_ | refine Zs ?_ | refine ZT ?_ | refine ZF ?_ | refine Zc ?_ | refine XO_gU (hk := ?_))
            repeat (first | refine XD_pick (h := ?_) | refine Dq ?_ | refine Ds ?_ | refine XDi_gF (h := ?_) | refine XDi_gU (h := ?_) | refine X_draws (h := ?_))
            refine XDi_pvA (pv_buildG [.int .i64 pg, .int .i64 n, .int .u64 (ofI pg n).1, .int .u64 (ofI pg n).2]) (h := ?_)
            repeat (first | refine XD_pick (h := ?_) | refine Dq ?_ | refine Ds ?_ | refine XDi_gF (h := ?_) | refine XDi_gU (h := ?_) | refine X_draws (h := ?_))
            refine XD_one (h := ?_)
            refine XDa_dvA (dv_lit (E' := ePart) [(pg, n, (ofI pg n).1, (ofI pg n).2)]) (hk := ?_)
            rintro _ _ ⟨lb, rfl, rfl⟩
            refine ⟨by (repeat (first | exact keeps_nil | exact keeps_fnil | refine keeps_skip (h := ?_) | refine keeps_takeQ (h := ?_))), ?_⟩
            repeat (first | refine XD_pick (h := ?_) | refine Dq ?_ | refine Ds ?_ | refine XDi_gF (h := ?_) | refine XDi_gU (h := ?_) | refine X_draws (h := ?_))
            refine XD_one (h := ?_)
            refine XDa_dvA (dv_append (E' := ePart) (xs := s.parts) (ys := [(pg, n, (ofI pg n).1, (ofI pg n).2)]) (A := Sl ePart (some ⟨lb, 0, none⟩) 1 [(pg, n, (ofI pg n).1, (ofI pg n).2)]) (a := a) (a2 := some ⟨lb, 0, none⟩) (c := c) (c2 := 1) (hv := Sl.view) (hb := by simp; omega)) (hk := ?_)
            rintro _ _ ⟨a3, c3, rfl, rfl⟩
            refine ⟨by (repeat (first | exact keeps_nil | exact keeps_fnil | refine keeps_skip (h := ?_) | refine keeps_takeQ (h := ?_))), ?_⟩
            repeat (first | refine XD_pick (h := ?_) | refine Dq ?_ | refine Ds ?_ | refine XDi_gF (h := ?_) | refine XDi_gU (h := ?_) | refine X_draws (h := ?_))
            refine XD_one (h := ?_)
            refine XDa_dvk0 dv_store (K := _) (hk := ?_)
            rintro _ _ rfl
            refine ⟨by (repeat (first | exact keeps_nil | exact keeps_fnil | refine keeps_skip (h := ?_) | refine keeps_takeQ (h := ?_))), ?_⟩
            (refine XD_end (h := ?_); repeat (first | refine Zq ?_ | refine Zs ?_ | refine ZT ?_ | refine ZF ?_ | refine Zc ?_ | refine XO_gU (hk := ?_)))
            refine XO_fold (by repeat (first | exact FindAll.nil | exact Find.here | apply Find.there | apply FindAll.cons)) (Shd.fold (s := partS s (pg, n) (ofI pg n)) (a := a3) (c := c3) (a' := a') (c' := c')) ?_
            have htA : topAt (partS s (pg, n) (ofI pg n)) = (ofI pg n).1 := by unfold topAt partS; rw [lastP_append]
            have htE : topEnd (partS s (pg, n) (ofI pg n)) = (ofI pg n).2 := by unfold topEnd partS; rw [lastP_append]
            have hsl : (partS s (pg, n) (ofI pg n)).parts.length ≤ 4611686018427387904 := by simp [partS]; omega
            generalize partS s (pg, n) (ofI pg n) = s1 at htA htE hsl ⊢
            refine XO_call (top_spec b s1 hsl) (hk := ?_)
            rintro _ _ ⟨cb2, o2, A2, G2, a5, a6, c5, c6, rfl, hCur2, hfold2, rfl⟩
            repeat (first | refine Zq ?_ | refine Zs ?_ | refine ZT ?_ | refine ZF ?_ | refine Zc ?_ | refine XO_gU (hk := ?_))
            refine XO_call (made_spec b cb2 o2 (topEnd s1) A2 hCur2 a5 a6 s1.parts.length s1.larges.length c5 c6 s1.obj s1.pad (topAt s1) size align (by rw [htA]; exact hob.1) (by rw [htA]; exact hob.2.1) (by rw [htE]; exact hob.2.2.1) (by rw [htE]; exact hob.2.2.2) h0 h1 h2 h3) (hk := ?_)
            intro v L' hpost
            unfold madeS
            cases hf2 : fitI (topAt s1) (topEnd s1) size align with
            | none =>
              rw [hf2] at hpost
              obtain ⟨rfl, rfl⟩ := hpost
              refine XO_fold (by repeat (first | exact FindAll.nil | exact Find.here | apply Find.there | apply FindAll.cons)) (hfold2 (topAt s1) s1.obj s1.pad) ?_
              rw [setTop_self]
              repeat (first | refine Zq ?_ | refine Zs ?_ | refine ZT ?_ | refine ZF ?_ | refine Zc ?_ | refine XO_gU (hk := ?_))
              refine XE_fold (by repeat (first | exact FindAll.nil | exact Find.here | apply Find.there | apply FindAll.cons)) (Lg.back _ hM hn1) ?_
              refine XE_ret (.inl rfl) (tells_tmps rfl rfl) ⟨_, ⟨rfl, rfl⟩, by ((try simp only [List.cons_append, List.nil_append]); repeat (first | exact ent_refl | refine ent_take (by repeat (first | exact Find.here | apply Find.there)) ?_ | refine ent_drop ?_))⟩
            | some q =>
              rw [hf2] at hpost
              obtain ⟨rfl, rfl⟩ := hpost
              refine XO_fold (by repeat (first | exact FindAll.nil | exact Find.here | apply Find.there | apply FindAll.cons)) (hfold2 q.2.1 _ _) ?_
              repeat (first | refine Zq ?_ | refine Zs ?_ | refine ZT ?_ | refine ZF ?_ | refine Zc ?_ | refine XO_gU (hk := ?_))
              refine XE_fold (by repeat (first | exact FindAll.nil | exact Find.here | apply Find.there | apply FindAll.cons)) (Lg.back _ hM hn1) ?_
              refine XE_ret (.inl rfl) (tells_tmps rfl rfl) ⟨_, ⟨rfl, rfl⟩, by ((try simp only [List.cons_append, List.nil_append]); repeat (first | exact ent_refl | refine ent_take (by repeat (first | exact Find.here | apply Find.there)) ?_ | refine ent_drop ?_))⟩
        · rw [if_neg he]
          repeat (first | refine Zq ?_ | refine Zs ?_ | refine ZT ?_ | refine ZF ?_ | refine Zc ?_ | refine XO_gU (hk := ?_))
          refine X_cond rfl (fun _ => ?_) (fun h => ?_)
          · repeat (first | refine Zq ?_ | refine Zs ?_ | refine ZT ?_ | refine ZF ?_ | refine Zc ?_ | refine XO_gU (hk := ?_))
            refine XE_fold (by repeat (first | exact FindAll.nil | exact Find.here | apply Find.there | apply FindAll.cons)) (Lg.back s hM hn1) ?_
            refine XE_ret (.inl rfl) (tells_tmps rfl rfl) ⟨_, ⟨rfl, rfl⟩, by ((try simp only [List.cons_append, List.nil_append]); repeat (first | exact ent_refl | refine ent_take (by repeat (first | exact Find.here | apply Find.there)) ?_ | refine ent_drop ?_))⟩
          · exfalso; exact he (by simpa using h)
end Go.Proofs.YtamecmklcnohjaaGreat.Sep
namespace Go.Proofs.YtamecmklcnohjaaGreat.Sep
open Go.RowKit
set_option linter.unusedSimpArgs false
set_option linter.unusedVariables false
theorem ins_same {κ α : Type} [DecidableEq κ] {l : List (κ × α)} {k : κ} {v : α} (h : lk l k = some v) : ins l k v = l := by
  obtain ⟨l1, l2, rfl, h1⟩ := lk_split h
  exact ins_split h1
attribute [local irreducible] Core Lg
set_option maxHeartbeats 8000000
attribute [local irreducible] X XE XO XD XDi XDa PV RV DV pt base Spec Sl Mp Keeps Pg Kc
def topW (b : Nat) (s : Sh) (a a' : Option Addr) (c c' : Nat) : Value → List HP → Prop := fun v L => ∃ (cb o : Nat) (A : Int → HP) (G : HP), v = .pointer (some ⟨cb, o, none⟩) ∧ Cur Tryz.prog cb o (topEnd s) A ∧
  (∀ at_ obj pad H, SL [pt b (.cells [.slice a s.parts.length c, .slice a' s.larges.length c', .int .u64 obj, .int .u64 pad].toArray 121 (0, 0)), A at_, Sl eRun a' c' s.larges, G] H → Shd b (setTop s at_ obj pad) H) ∧
  L = [pt b (.cells [.slice a s.parts.length c, .slice a' s.larges.length c', .int .u64 s.obj, .int .u64 s.pad].toArray 121 (0, 0)), A (topAt s), Sl eRun a' c' s.larges, G]
theorem top_raw (b : Nat) (s : Sh) (a a' : Option Addr) (c c' : Nat) (hl : s.parts.length ≤ 4611686018427387904) : Spec Tryz.prog 70 [.pointer (some ⟨b, 0, none⟩)] [pt b (.cells [.slice a s.parts.length c, .slice a' s.larges.length c', .int .u64 s.obj, .int .u64 s.pad].toArray 121 (0, 0)), Sl ePart a c s.parts, Sl eRun a' c' s.larges] (topW b s a a' c c') := by
  refine Spec.intro (IsEnt.out) Tryz.func70 rfl Tryz.ntmps70 (by simp) (fun w0 F => ?_)
  simp only [envOf, List.zipIdx, List.map, List.cons_append, List.nil_append, Nat.zero_add, Nat.reduceAdd]
  unfold topW
  repeat (first | refine Zq ?_ | refine Zs ?_ | refine ZT ?_ | refine ZF ?_ | refine Zc ?_ | refine XO_gU (hk := ?_))
  refine X_cond rfl (fun h => ?_) (fun h => ?_)
  · have h0 : s.parts = [] := by
      have : ((s.parts.length : Int) == 0) = true := h
      exact List.length_eq_zero_iff.1 (by simpa using this)
    repeat (first | refine Zq ?_ | refine Zs ?_ | refine ZT ?_ | refine ZF ?_ | refine Zc ?_ | refine XO_gU (hk := ?_))
    refine XO_dv dv_box (hk := ?_)
    rintro _ _ ⟨cb, rfl, rfl⟩
    repeat (first | refine Zq ?_ | refine Zs ?_ | refine ZT ?_ | refine ZF ?_ | refine Zc ?_ | refine XO_gU (hk := ?_))
    refine XE_ret (.inl rfl) (tells_tmps rfl rfl) ⟨_, ⟨cb, 0, fun x => pt cb (.cells [.int .u64 x, .int .u64 0].toArray 126 (0, 0)), Sl ePart a c s.parts, rfl, ?_, ?_, rfl⟩, ?_⟩
    · have he : topEnd s = 0 := by unfold topEnd; rw [h0]; rfl
      rw [he]
      exact Cur.cell cb 0
    · intro at_ obj pad H hs
      have hst : setTop s at_ obj pad = ⟨s.parts, s.larges, obj, pad⟩ := by unfold setTop; rw [h0]; rfl
      rw [hst]
      refine Shd.fold (s := ⟨s.parts, s.larges, obj, pad⟩) (a := a) (c := c) (a' := a') (c' := c') H ?_
      revert H
      intro H hs
      refine (show ∀ H, SL _ H → SL _ H from ?_) H hs
      ((try simp only [List.cons_append, List.nil_append]); repeat (first | exact ent_refl | refine ent_take (by repeat (first | exact Find.here | apply Find.there)) ?_ | refine ent_drop ?_))
    · have ht : topAt s = 0 := by unfold topAt; rw [h0]; rfl
      rw [ht]
      ((try simp only [List.cons_append, List.nil_append]); repeat (first | exact ent_refl | refine ent_take (by repeat (first | exact Find.here | apply Find.there)) ?_ | refine ent_drop ?_))
  · have h0 : 0 < s.parts.length := by
      have : ((s.parts.length : Int) == 0) = false := h
      have : ¬ (s.parts.length : Int) = 0 := by simpa using this
      omega
    refine X_slopen (E' := ePart) (a := a) (c := c) (xs := s.parts) (by (repeat (first | exact Find.here | apply Find.there))) h0 ?_
    rintro qb o rfl
    repeat (first | refine Zq ?_ | refine Zs ?_ | refine ZT ?_ | refine ZF ?_ | refine Zc ?_ | refine XO_gU (hk := ?_))
    repeat (first | refine XD_pick (h := ?_) | refine Dq ?_ | refine Ds ?_ | refine XDi_gF (h := ?_) | refine XDi_gU (h := ?_) | refine X_draws (h := ?_))
    (refine XD_one (h := ?_); refine XDa_dvA (dv_of_rv (rv_of_pv pv_assign)) (hk := ?_); rintro _ _ ⟨rfl, rfl⟩; refine ⟨by (repeat (first | exact keeps_nil | exact keeps_fnil | refine keeps_skip (h := ?_) | refine keeps_takeQ (h := ?_))), ?_⟩)
    (refine XD_end (h := ?_); repeat (first | refine Zq ?_ | refine Zs ?_ | refine ZT ?_ | refine ZF ?_ | refine Zc ?_ | refine XO_gU (hk := ?_)))
    have hto : ((s.parts.length : Int) - 1).toNat = s.parts.length - 1 := by omega
    have hself : setLast s.parts (topAt s) = s.parts := setLast_self _
    simp only [hto]
    refine XE_conv (fun _ => SL_true) ?_
    refine XE_ret (.inl rfl) (tells_tmps rfl rfl) ⟨_, ⟨qb, o + (s.parts.length - 1) * 4 + 2, fun x => Sl ePart (some ⟨qb, o, none⟩) c (setLast s.parts x), pur True, rfl, Cur.part qb o c s.parts h0, ?_, rfl⟩, ?_⟩
    · intro at_ obj pad H hs
      unfold setTop
      refine Shd.fold (s := ⟨setLast s.parts at_, s.larges, obj, pad⟩) (a := some ⟨qb, o, none⟩) (c := c) (a' := a') (c' := c') H ?_
      dsimp only
      rw [setLast_length]
      refine (show ∀ H, SL _ H → SL _ H from ?_) H hs
      ((try simp only [List.cons_append, List.nil_append]); repeat (first | exact ent_refl | refine ent_take (by repeat (first | exact Find.here | apply Find.there)) ?_ | refine ent_drop ?_))
    · dsimp only
      rw [hself]
      ((try simp only [List.cons_append, List.nil_append]); repeat (first | exact ent_refl | refine ent_take (by repeat (first | exact Find.here | apply Find.there)) ?_ | refine ent_drop ?_))
end Go.Proofs.YtamecmklcnohjaaGreat.Sep
namespace Go.Proofs.YtamecmklcnohjaaGreat.Sep
open Go.RowKit
set_option linter.unusedSimpArgs false
set_option linter.unusedVariables false
attribute [local irreducible] Core Shd
set_option maxHeartbeats 8000000
attribute [local irreducible] X XE XO XD XDi XDa PV RV DV pt base Spec Sl Mp Keeps Pg Kc

theorem lfits_spec (b : Nat) (s : Sh) (mc ml at_ ob pd : Int) (hl : s.parts.length ≤ 4611686018427387904) : Spec Tryz.prog 75 [.pointer (some ⟨b, 0, none⟩), .agg #[.int .i64 mc, .int .i64 ml, .int .u64 at_, .int .u64 ob, .int .u64 pd]] [Shd b s] (fun v L => v = .bool (fitsS s mc ml at_) ∧ L = [Shd b s]) := by
  refine Spec.intro (IsEnt.out) Tryz.func75 rfl Tryz.ntmps75 (by simp) (fun w0 F => ?_)
  simp only [envOf, List.zipIdx, List.map, List.cons_append, List.nil_append, Nat.zero_add, Nat.reduceAdd]
  refine X_open .here Shd.open ?_
  rintro ⟨a, c, a', c'⟩ -
  dsimp only [List.cons_append, List.nil_append]
  repeat (first | refine Zq ?_ | refine Zs ?_ | refine ZT ?_ | refine ZF ?_ | refine Zc ?_ | refine XO_gU (hk := ?_))
  refine XO_dv dv_box (hk := ?_)
  rintro _ _ ⟨b3, rfl, rfl⟩
  repeat (first | refine Zq ?_ | refine Zs ?_ | refine ZT ?_ | refine ZF ?_ | refine Zc ?_ | refine XO_gU (hk := ?_))
  repeat (first | refine XD_pick (h := ?_) | refine Dq ?_ | refine Ds ?_ | refine XDi_gF (h := ?_) | refine XDi_gU (h := ?_) | refine X_draws (h := ?_))
  by_cases hbad : mc < 0 ∨ (s.parts.length : Int) < mc ∨ ml < 0 ∨ (s.larges.length : Int) < ml
  · have hF : fitsS s mc ml at_ = false := by unfold fitsS; rw [if_pos hbad]
    rw [hF]
    refine XDi_either (hT := fun h => ?_) (hF := fun h => ?_) <;> simp only [decide_eq_true_eq, decide_eq_false_iff_not] at h
    · repeat (first | refine XD_pick (h := ?_) | refine Dq ?_ | refine Ds ?_ | refine XDi_gF (h := ?_) | refine XDi_gU (h := ?_) | refine X_draws (h := ?_))
      (refine XD_end (h := ?_); repeat (first | refine Zq ?_ | refine Zs ?_ | refine ZT ?_ | refine ZF ?_ | refine Zc ?_ | refine XO_gU (hk := ?_)))
      refine X_cond rfl (fun _ => ?_) (fun h => by cases h)
      repeat (first | refine Zq ?_ | refine Zs ?_ | refine ZT ?_ | refine ZF ?_ | refine Zc ?_ | refine XO_gU (hk := ?_))
      refine XE_fold (by repeat (first | exact FindAll.nil | exact Find.here | apply Find.there | apply FindAll.cons)) (Shd.fold (s := s)) ?_
      refine XE_ret (.inl rfl) (tells_tmps rfl rfl) ⟨_, ⟨rfl, rfl⟩, by ((try simp only [List.cons_append, List.nil_append]); repeat (first | exact ent_refl | refine ent_take (by repeat (first | exact Find.here | apply Find.there)) ?_ | refine ent_drop ?_))⟩
    repeat (first | refine XD_pick (h := ?_) | refine Dq ?_ | refine Ds ?_ | refine XDi_gF (h := ?_) | refine XDi_gU (h := ?_) | refine X_draws (h := ?_))
    refine XDi_either (hT := fun h => ?_) (hF := fun h => ?_) <;> simp only [decide_eq_true_eq, decide_eq_false_iff_not] at h
    · repeat (first | refine XD_pick (h := ?_) | refine Dq ?_ | refine Ds ?_ | refine XDi_gF (h := ?_) | refine XDi_gU (h := ?_) | refine X_draws (h := ?_))
      (refine XD_end (h := ?_); repeat (first | refine Zq ?_ | refine Zs ?_ | refine ZT ?_ | refine ZF ?_ | refine Zc ?_ | refine XO_gU (hk := ?_)))
      refine X_cond rfl (fun _ => ?_) (fun h => by cases h)
      repeat (first | refine Zq ?_ | refine Zs ?_ | refine ZT ?_ | refine ZF ?_ | refine Zc ?_ | refine XO_gU (hk := ?_))
      refine XE_fold (by repeat (first | exact FindAll.nil | exact Find.here | apply Find.there | apply FindAll.cons)) (Shd.fold (s := s)) ?_
      refine XE_ret (.inl rfl) (tells_tmps rfl rfl) ⟨_, ⟨rfl, rfl⟩, by ((try simp only [List.cons_append, List.nil_append]); repeat (first | exact ent_refl | refine ent_take (by repeat (first | exact Find.here | apply Find.there)) ?_ | refine ent_drop ?_))⟩
    repeat (first | refine XD_pick (h := ?_) | refine Dq ?_ | refine Ds ?_ | refine XDi_gF (h := ?_) | refine XDi_gU (h := ?_) | refine X_draws (h := ?_))
    refine XDi_either (hT := fun h => ?_) (hF := fun h => ?_) <;> simp only [decide_eq_true_eq, decide_eq_false_iff_not] at h
    · repeat (first | refine XD_pick (h := ?_) | refine Dq ?_ | refine Ds ?_ | refine XDi_gF (h := ?_) | refine XDi_gU (h := ?_) | refine X_draws (h := ?_))
      (refine XD_end (h := ?_); repeat (first | refine Zq ?_ | refine Zs ?_ | refine ZT ?_ | refine ZF ?_ | refine Zc ?_ | refine XO_gU (hk := ?_)))
      refine X_cond rfl (fun _ => ?_) (fun h => by cases h)
      repeat (first | refine Zq ?_ | refine Zs ?_ | refine ZT ?_ | refine ZF ?_ | refine Zc ?_ | refine XO_gU (hk := ?_))
      refine XE_fold (by repeat (first | exact FindAll.nil | exact Find.here | apply Find.there | apply FindAll.cons)) (Shd.fold (s := s)) ?_
      refine XE_ret (.inl rfl) (tells_tmps rfl rfl) ⟨_, ⟨rfl, rfl⟩, by ((try simp only [List.cons_append, List.nil_append]); repeat (first | exact ent_refl | refine ent_take (by repeat (first | exact Find.here | apply Find.there)) ?_ | refine ent_drop ?_))⟩
    repeat (first | refine XD_pick (h := ?_) | refine Dq ?_ | refine Ds ?_ | refine XDi_gF (h := ?_) | refine XDi_gU (h := ?_) | refine X_draws (h := ?_))
    (refine XD_end (h := ?_); repeat (first | refine Zq ?_ | refine Zs ?_ | refine ZT ?_ | refine ZF ?_ | refine Zc ?_ | refine XO_gU (hk := ?_)))
    refine X_cond rfl (fun _ => ?_) (fun h => ?_)
    · repeat (first | refine Zq ?_ | refine Zs ?_ | refine ZT ?_ | refine ZF ?_ | refine Zc ?_ | refine XO_gU (hk := ?_))
      refine XE_fold (by repeat (first | exact FindAll.nil | exact Find.here | apply Find.there | apply FindAll.cons)) (Shd.fold (s := s)) ?_
      refine XE_ret (.inl rfl) (tells_tmps rfl rfl) ⟨_, ⟨rfl, rfl⟩, by ((try simp only [List.cons_append, List.nil_append]); repeat (first | exact ent_refl | refine ent_take (by repeat (first | exact Find.here | apply Find.there)) ?_ | refine ent_drop ?_))⟩
    · exfalso
      have := of_decide_eq_false h
      omega
  refine XDi_known false (hb := decide_eq_false (by omega)) (hT := ?_)
  repeat (first | refine XD_pick (h := ?_) | refine Dq ?_ | refine Ds ?_ | refine XDi_gF (h := ?_) | refine XDi_gU (h := ?_) | refine X_draws (h := ?_))
  refine XDi_known false (hb := decide_eq_false (by omega)) (hT := ?_)
  repeat (first | refine XD_pick (h := ?_) | refine Dq ?_ | refine Ds ?_ | refine XDi_gF (h := ?_) | refine XDi_gU (h := ?_) | refine X_draws (h := ?_))
  refine XDi_known false (hb := decide_eq_false (by omega)) (hT := ?_)
  repeat (first | refine XD_pick (h := ?_) | refine Dq ?_ | refine Ds ?_ | refine XDi_gF (h := ?_) | refine XDi_gU (h := ?_) | refine X_draws (h := ?_))
  (refine XD_end (h := ?_); repeat (first | refine Zq ?_ | refine Zs ?_ | refine ZT ?_ | refine ZF ?_ | refine Zc ?_ | refine XO_gU (hk := ?_)))
  refine X_cond rfl (fun h => ?_) (fun _ => ?_)
  · exfalso
    have := of_decide_eq_true h
    omega
  repeat (first | refine Zq ?_ | refine Zs ?_ | refine ZT ?_ | refine ZF ?_ | refine Zc ?_ | refine XO_gU (hk := ?_))
  refine X_cond rfl (fun h => ?_) (fun h => ?_)
  · have h0 : mc = 0 := by simpa using h
    have hF : fitsS s mc ml at_ = (at_ == 0) := by unfold fitsS; rw [if_neg hbad, if_pos h0]
    rw [hF]
    repeat (first | refine Zq ?_ | refine Zs ?_ | refine ZT ?_ | refine ZF ?_ | refine Zc ?_ | refine XO_gU (hk := ?_))
    refine XE_fold (by repeat (first | exact FindAll.nil | exact Find.here | apply Find.there | apply FindAll.cons)) (Shd.fold (s := s)) ?_
    refine XE_ret (.inl rfl) (tells_tmps rfl rfl) ⟨_, ⟨rfl, rfl⟩, by ((try simp only [List.cons_append, List.nil_append]); repeat (first | exact ent_refl | refine ent_take (by repeat (first | exact Find.here | apply Find.there)) ?_ | refine ent_drop ?_))⟩
  · have h0 : ¬ mc = 0 := by simpa using h
    have hi : mc.toNat - 1 < s.parts.length := by omega
    have hto : (mc - 1).toNat = mc.toNat - 1 := by omega
    refine X_slopen (E' := ePart) (a := a) (c := c) (xs := s.parts) (by (repeat (first | exact Find.here | apply Find.there))) (by omega) ?_
    rintro qb o rfl
    have hg : s.parts.getD (mc.toNat - 1) (0, 0, 0, 0) = s.parts[mc.toNat - 1] := by simp [List.getD, hi]
    have hF : fitsS s mc ml at_ = (decide ((ofI s.parts[mc.toNat - 1].1 s.parts[mc.toNat - 1].2.1).1 ≤ at_) && decide (at_ ≤ s.parts[mc.toNat - 1].2.2.1)) := by unfold fitsS; rw [if_neg hbad, if_neg h0, hg]
    rw [hF]
    have hgo : s.parts[mc.toNat - 1]? = some s.parts[mc.toNat - 1] := List.getElem?_eq_getElem hi
    generalize s.parts[mc.toNat - 1]'hi = p at hg hF hgo ⊢
    repeat (first | refine Zq ?_ | refine Zs ?_ | refine ZT ?_ | refine ZF ?_ | refine Zc ?_ | refine XO_gU (hk := ?_))
    repeat (first | refine XD_pick (h := ?_) | refine Dq ?_ | refine Ds ?_ | refine XDi_gF (h := ?_) | refine XDi_gU (h := ?_) | refine X_draws (h := ?_))
    simp only [hto]
    refine XDi_rvA (rv_elG (E' := ePart) (i := mc.toNat - 1) (x' := p) (hget := hgo)) (h := ?_)
    repeat (first | refine XD_pick (h := ?_) | refine Dq ?_ | refine Ds ?_ | refine XDi_gF (h := ?_) | refine XDi_gU (h := ?_) | refine X_draws (h := ?_))
    refine XD_one (h := ?_)
    refine XDa_dvA dv_alloc (hk := ?_)
    rintro _ _ ⟨b5, rfl, rfl⟩
    refine ⟨by repeat (first | exact keeps_fnil | refine keeps_skip (h := ?_) | refine keeps_takeA (hv := by first | exact rv_load | exact rv_loadW | exact rv_elG (E' := ePart) (i := mc.toNat - 1) (x' := p) (hget := hgo)) (h := ?_)), ?_⟩
    repeat (first | refine XD_pick (h := ?_) | refine Dq ?_ | refine Ds ?_ | refine XDi_gF (h := ?_) | refine XDi_gU (h := ?_) | refine X_draws (h := ?_))
    refine XD_one (h := ?_)
    refine XDa_dvk0 dv_storeW (K := _) (hk := ?_)
    rintro _ _ rfl
    refine ⟨by repeat (first | exact keeps_fnil | refine keeps_skip (h := ?_) | refine keeps_takeA (hv := by first | exact rv_load | exact rv_loadW | exact rv_elG (E' := ePart) (i := mc.toNat - 1) (x' := p) (hget := hgo)) (h := ?_)), ?_⟩
    (refine XD_end (h := ?_); repeat (first | refine Zq ?_ | refine Zs ?_ | refine ZT ?_ | refine ZF ?_ | refine Zc ?_ | refine XO_gU (hk := ?_)))
    repeat (first | refine XD_pick (h := ?_) | refine Dq ?_ | refine Ds ?_ | refine XDi_gF (h := ?_) | refine XDi_gU (h := ?_) | refine X_draws (h := ?_))
    refine XD_one (h := ?_)
    refine XDa_dvA (dv_call (bof_spec p.1 p.2.1)) (hk := ?_)
    (rintro _ _ ⟨_, ⟨rfl, rfl⟩, rfl⟩; refine ⟨by (repeat (first | exact keeps_nil | exact keeps_fnil | refine keeps_skip (h := ?_) | refine keeps_takeQ (h := ?_))), ?_⟩)
    repeat (first | refine XD_pick (h := ?_) | refine Dq ?_ | refine Ds ?_ | refine XDi_gF (h := ?_) | refine XDi_gU (h := ?_) | refine X_draws (h := ?_))
    refine XDi_pvA pv_fieldV (h := ?_)
    repeat (first | refine XD_pick (h := ?_) | refine Dq ?_ | refine Ds ?_ | refine XDi_gF (h := ?_) | refine XDi_gU (h := ?_) | refine X_draws (h := ?_))
    refine XDi_either (hT := fun h2 => ?_) (hF := fun h2 => ?_) <;> simp only [decide_eq_true_eq, decide_eq_false_iff_not] at h2
    · rw [decide_eq_true h2, Bool.true_and]
      repeat (first | refine XD_pick (h := ?_) | refine Dq ?_ | refine Ds ?_ | refine XDi_gF (h := ?_) | refine XDi_gU (h := ?_) | refine X_draws (h := ?_))
      (refine XD_one (h := ?_); refine XDa_dvA (dv_of_rv (rv_of_pv pv_assign)) (hk := ?_); rintro _ _ ⟨rfl, rfl⟩; refine ⟨by (repeat (first | exact keeps_nil | exact keeps_fnil | refine keeps_skip (h := ?_) | refine keeps_takeQ (h := ?_))), ?_⟩)
      (refine XD_end (h := ?_); repeat (first | refine Zq ?_ | refine Zs ?_ | refine ZT ?_ | refine ZF ?_ | refine Zc ?_ | refine XO_gU (hk := ?_)))
      refine XE_fold (by repeat (first | exact FindAll.nil | exact Find.here | apply Find.there | apply FindAll.cons)) (Shd.fold (s := s)) ?_
      refine XE_ret (.inl rfl) (tells_tmps rfl rfl) ⟨_, ⟨rfl, rfl⟩, by ((try simp only [List.cons_append, List.nil_append]); repeat (first | exact ent_refl | refine ent_take (by repeat (first | exact Find.here | apply Find.there)) ?_ | refine ent_drop ?_))⟩
    · rw [decide_eq_false h2, Bool.false_and]
      repeat (first | refine XD_pick (h := ?_) | refine Dq ?_ | refine Ds ?_ | refine XDi_gF (h := ?_) | refine XDi_gU (h := ?_) | refine X_draws (h := ?_))
      (refine XD_one (h := ?_); refine XDa_dvA (dv_of_rv (rv_of_pv pv_assign)) (hk := ?_); rintro _ _ ⟨rfl, rfl⟩; refine ⟨by (repeat (first | exact keeps_nil | exact keeps_fnil | refine keeps_skip (h := ?_) | refine keeps_takeQ (h := ?_))), ?_⟩)
      (refine XD_end (h := ?_); repeat (first | refine Zq ?_ | refine Zs ?_ | refine ZT ?_ | refine ZF ?_ | refine Zc ?_ | refine XO_gU (hk := ?_)))
      refine XE_fold (by repeat (first | exact FindAll.nil | exact Find.here | apply Find.there | apply FindAll.cons)) (Shd.fold (s := s)) ?_
      refine XE_ret (.inl rfl) (tells_tmps rfl rfl) ⟨_, ⟨rfl, rfl⟩, by ((try simp only [List.cons_append, List.nil_append]); repeat (first | exact ent_refl | refine ent_take (by repeat (first | exact Find.here | apply Find.there)) ?_ | refine ent_drop ?_))⟩
end Go.Proofs.YtamecmklcnohjaaGreat.Sep
namespace Go.Proofs.YtamecmklcnohjaaGreat.Sep
open Go.RowKit
set_option linter.unusedSimpArgs false
set_option linter.unusedVariables false
theorem Shd.foldN {b m m' c c' : Nat} {s : Sh} {a a' : Option Addr} (h : m = s.parts.length) (h' : m' = s.larges.length) : ∀ H, SL [pt b (.cells [.slice a m c, .slice a' m' c', .int .u64 s.obj, .int .u64 s.pad].toArray 121 (0, 0)), Sl ePart a c s.parts, Sl eRun a' c' s.larges] H → Shd b s H := by
  subst h h'; exact Shd.fold
def rewV (l : Nat) (C : Co) (rg : List (Int × Sh)) (id mc ml at_ ob pd : Int) : Option Sh → Value → List HP → Prop
  | none => fun v L => v = .int .i64 2 ∧ L = [Lg l C rg]
  | some s => match rewS C s mc ml at_ ob pd with
    | none => fun v L => v = .int .i64 2 ∧ L = [Lg l C rg]
    | some q => fun v L => v = .int .i64 0 ∧ L = [Lg l q.1 (ins rg id q.2)]
theorem rewV_none {l : Nat} {C : Co} {rg : List (Int × Sh)} {id mc ml at_ ob pd : Int} {s : Sh} (h : rewS C s mc ml at_ ob pd = none) : rewV l C rg id mc ml at_ ob pd (some s) = fun v L => v = .int .i64 2 ∧ L = [Lg l C rg] := by
  show (match rewS C s mc ml at_ ob pd with | none => _ | some q => _) = _
  rw [h]
theorem rewV_some {l : Nat} {C : Co} {rg : List (Int × Sh)} {id mc ml at_ ob pd : Int} {s : Sh} {q : Co × Sh} (h : rewS C s mc ml at_ ob pd = some q) : rewV l C rg id mc ml at_ ob pd (some s) = fun v L => v = .int .i64 0 ∧ L = [Lg l q.1 (ins rg id q.2)] := by
  show (match rewS C s mc ml at_ ob pd with | none => _ | some q => _) = _
  rw [h]
attribute [local irreducible] Core Shd Shs Lg
set_option maxHeartbeats 8000000
attribute [local irreducible] X XE XO XD XDi XDa PV RV DV pt base Spec Sl Mp Keeps Pg Kc
theorem rewind_spec (l : Nat) (C : Co) (rg : List (Int × Sh)) (id mc ml at_ ob pd : Int) (hC : CoOk C) (hS : ∀ q ∈ rg, ShOk q.2 ∧ q.2.parts.length ≤ 1048576 ∧ q.2.larges.length ≤ 1048576) (hmc : -9223372036854775808 ≤ mc) (hmc' : mc ≤ 9223372036854775807) (hml : -9223372036854775808 ≤ ml) (hml' : ml ≤ 9223372036854775807) :
    Spec Tryz.prog 22 [.pointer (some ⟨l, 0, none⟩), .int .u64 id, .agg #[.int .i64 mc, .int .i64 ml, .int .u64 at_, .int .u64 ob, .int .u64 pd]] [Lg l C rg] (rewV l C rg id mc ml at_ ob pd (lk rg id)) := by
  refine Spec.intro (IsEnt.out) Tryz.func22 rfl Tryz.ntmps22 (by simp) (fun w0 F => ?_)
  simp only [envOf, List.zipIdx, List.map, List.cons_append, List.nil_append, Nat.zero_add, Nat.reduceAdd]
  refine X_open .here Lg.open ?_
  rintro ⟨mb, M⟩ hM
  dsimp only [List.cons_append, List.nil_append] at hM ⊢
  repeat (first | refine Zq ?_ | refine Zs ?_ | refine ZT ?_ | refine ZF ?_ | refine Zc ?_ | refine XO_gU (hk := ?_))
  refine XO_dv dv_box (hk := ?_)
  rintro _ _ ⟨b5, rfl, rfl⟩
  repeat (first | refine Zq ?_ | refine Zs ?_ | refine ZT ?_ | refine ZF ?_ | refine Zc ?_ | refine XO_gU (hk := ?_))
  refine XO_call (of_spec l mb C (blk M) id) (hk := ?_)
  rintro _ _ ⟨rfl, rfl⟩
  rw [lk_blk]
  cases hk : lk M id with
  | none =>
    have hrg : lk rg id = none := by rw [← hM, lk_rgs, hk]; rfl
    rw [hrg]
    simp only [Option.map_none, Option.getD_none, ptV]
    repeat (first | refine Zq ?_ | refine Zs ?_ | refine ZT ?_ | refine ZF ?_ | refine Zc ?_ | refine XO_gU (hk := ?_))
    refine X_cond rfl (fun _ => ?_) (fun h => by cases h)
    repeat (first | refine Zq ?_ | refine Zs ?_ | refine ZT ?_ | refine ZF ?_ | refine Zc ?_ | refine XO_gU (hk := ?_))
    refine XE_fold (by repeat (first | exact FindAll.nil | exact Find.here | apply Find.there | apply FindAll.cons)) (Lg.fold hM) ?_
    refine XE_ret (.inl rfl) (tells_tmps rfl rfl) ⟨_, ⟨rfl, rfl⟩, by ((try simp only [List.cons_append, List.nil_append]); repeat (first | exact ent_refl | refine ent_take (by repeat (first | exact Find.here | apply Find.there)) ?_ | refine ent_drop ?_))⟩
  | some q =>
    obtain ⟨b, s⟩ := q
    have hrg : lk rg id = some s := by rw [← hM, lk_rgs, hk]; rfl
    have hsame := ins_same hrg
    rw [hrg]
    obtain ⟨M1, M2, rfl, hn1⟩ := lk_split hk
    obtain ⟨hs1, hs2, hs3⟩ := hS (id, s) (by rw [← hM]; simp [rgs])
    dsimp only at hs1 hs2 hs3
    simp only [Option.map_some, Option.getD_some, ptV]
    refine XO_open (A := Shs (M1 ++ (id, b, s) :: M2)) (by (repeat (first | exact Find.here | apply Find.there))) Shs.out ?_
    rintro ⟨⟩ -
    dsimp only [List.cons_append, List.nil_append]
    repeat (first | refine Zq ?_ | refine Zs ?_ | refine ZT ?_ | refine ZF ?_ | refine Zc ?_ | refine XO_gU (hk := ?_))
    refine XO_call (lfits_spec b s mc ml at_ ob pd (by omega)) (hk := ?_)
    rintro _ _ ⟨rfl, rfl⟩
    cases hfit : fitsS s mc ml at_ with
    | false =>
      have hR : rewS C s mc ml at_ ob pd = none := by unfold rewS; rw [hfit]; rfl
      rw [rewV_none hR]
      repeat (first | refine Zq ?_ | refine Zs ?_ | refine ZT ?_ | refine ZF ?_ | refine Zc ?_ | refine XO_gU (hk := ?_))
      refine X_cond rfl (fun _ => ?_) (fun h => by cases h)
      repeat (first | refine Zq ?_ | refine Zs ?_ | refine ZT ?_ | refine ZF ?_ | refine Zc ?_ | refine XO_gU (hk := ?_))
      refine XE_fold (by repeat (first | exact FindAll.nil | exact Find.here | apply Find.there | apply FindAll.cons)) (Lg.back s hM hn1) ?_
      rw [hsame]
      refine XE_ret (.inl rfl) (tells_tmps rfl rfl) ⟨_, ⟨rfl, rfl⟩, by ((try simp only [List.cons_append, List.nil_append]); repeat (first | exact ent_refl | refine ent_take (by repeat (first | exact Find.here | apply Find.there)) ?_ | refine ent_drop ?_))⟩
    | true =>
      have hR : rewS C s mc ml at_ ob pd = some (putsC C s mc ml, if [mc, ml, at_, ob, pd] = [0, 0, 0, 0, 0] then emptySh else setTop (cutS s mc ml) at_ ob pd) := by unfold rewS; rw [hfit]; rfl
      rw [rewV_some hR]
      dsimp only
      have hfr : 0 ≤ mc ∧ mc ≤ s.parts.length ∧ 0 ≤ ml ∧ ml ≤ s.larges.length := by
        unfold fitsS at hfit
        split at hfit
        · cases hfit
        · omega
      obtain ⟨f1, f2, f3, f4⟩ := hfr
      repeat (first | refine Zq ?_ | refine Zs ?_ | refine ZT ?_ | refine ZF ?_ | refine Zc ?_ | refine XO_gU (hk := ?_))
      refine X_cond rfl (fun h => by cases h) (fun _ => ?_)
      refine X_open (A := Shd b s) (by (repeat (first | exact Find.here | apply Find.there))) Shd.open ?_
      rintro ⟨a, c, a', c'⟩ -
      dsimp only [List.cons_append, List.nil_append]
      refine X_fact (A := Sl ePart a c s.parts) (by (repeat (first | exact Find.here | apply Find.there))) Sl.cap (fun hcap => ?_)
      refine X_fact (A := Sl eRun a' c' s.larges) (by (repeat (first | exact Find.here | apply Find.there))) Sl.cap (fun hcap' => ?_)
      repeat (first | refine Zq ?_ | refine Zs ?_ | refine ZT ?_ | refine ZF ?_ | refine Zc ?_ | refine XO_gU (hk := ?_))
      refine X_loop (ι := Nat) (fun n => ml.toNat ≤ n ∧ n ≤ s.larges.length) (fun n => [(0, .pointer (some ⟨l, 0, none⟩)), (5, .pointer (some ⟨b5, 0, none⟩)), (7, .pointer (some ⟨b, 0, none⟩)), (8, .int .i64 (n : Int))])
        (fun n => Core l mb (((s.larges.drop n).reverse).foldl putC C) :: pt b5 (.cells [.int .i64 mc, .int .i64 ml, .int .u64 at_, .int .u64 ob, .int .u64 pd].toArray 36 (0, 0)) :: pt b (.cells [.slice a s.parts.length c, .slice a' s.larges.length c', .int .u64 s.obj, .int .u64 s.pad].toArray 121 (0, 0)) :: Sl ePart a c s.parts :: Sl eRun a' c' s.larges :: Mp idE ptV mb (blk (M1 ++ (id, b, s) :: M2)) :: Shs (M1 ++ M2) :: F)
        (fun n => n) s.larges.length ⟨by omega, Nat.le_refl _⟩ ?_ ?_ ?_
      · (repeat (first | exact Env.sub_nil _ | refine Env.sub_cons rfl ?_))
      · rw [List.drop_length]; ((try simp only [List.cons_append, List.nil_append]); repeat (first | exact ent_refl | refine ent_take (by repeat (first | exact Find.here | apply Find.there)) ?_ | refine ent_drop ?_))
      · rintro n ⟨hn0, hn2⟩
        dsimp only at hn0 hn2 ⊢
        repeat (first | refine Zq ?_ | refine Zs ?_ | refine ZT ?_ | refine ZF ?_ | refine Zc ?_ | refine XO_gU (hk := ?_))
        refine X_cond rfl (fun hc => ?_) (fun hc => ?_) <;> simp only [decide_eq_true_eq, decide_eq_false_iff_not] at hc
        · have hnl : n - 1 < s.larges.length := by omega
          have hn1' : n - 1 + 1 = n := by omega
          have hto : ((n : Int) - 1).toNat = n - 1 := by omega
          have hm1 : ((n - 1 : Nat) : Int) = (n : Int) - 1 := by omega
          have hok := puts_ok (l := (s.larges.drop n).reverse) (fun r hr => (hs1.larges r (List.mem_of_mem_drop (List.mem_reverse.1 hr))).2.1) hC
          have hst := puts_step hnl C
          rw [hn1'] at hst
          have hrr := hs1.larges s.larges[n - 1] (List.getElem_mem hnl)
          refine X_slopen (E' := eRun) (a := a') (c := c') (xs := s.larges) (by (repeat (first | exact Find.here | apply Find.there))) (by omega) ?_
          rintro qb o rfl
          repeat (first | refine Zq ?_ | refine Zs ?_ | refine ZT ?_ | refine ZF ?_ | refine Zc ?_ | refine XO_gU (hk := ?_))
          simp only [hto]
          refine XO_rv (rv_elG (E' := eRun) (i := n - 1) (x' := s.larges[n - 1]) (hget := by simp [hnl])) (hk := ?_)
          repeat (first | refine Zq ?_ | refine Zs ?_ | refine ZT ?_ | refine ZF ?_ | refine Zc ?_ | refine XO_gU (hk := ?_))
          refine XO_call (put_spec l mb _ s.larges[n - 1] hok hrr.1 hrr.2.1 hrr.2.2.1 hrr.2.2.2) (hk := ?_)
          rintro _ _ ⟨rfl, rfl⟩
          rw [← hst]
          repeat (first | refine Zq ?_ | refine Zs ?_ | refine ZT ?_ | refine ZF ?_ | refine Zc ?_ | refine XO_gU (hk := ?_))
          refine X_round (n - 1) ⟨by show _ ≤ n - 1; omega, by show n - 1 ≤ _; omega⟩ (by show n - 1 < n; omega) (by rw [hm1]; (repeat (first | exact Env.sub_nil _ | refine Env.sub_cons rfl ?_))) (by ((try simp only [List.cons_append, List.nil_append]); repeat (first | exact ent_refl | refine ent_take (by repeat (first | exact Find.here | apply Find.there)) ?_ | refine ent_drop ?_)))
        · obtain rfl : n = ml.toNat := by omega
          have hok1 := puts_ok (l := (s.larges.drop ml.toNat).reverse) (fun r hr => (hs1.larges r (List.mem_of_mem_drop (List.mem_reverse.1 hr))).2.1) hC
          unfold putsC
          generalize ((s.larges.drop ml.toNat).reverse).foldl putC C = C1 at hok1 ⊢
          repeat (first | refine Zq ?_ | refine Zs ?_ | refine ZT ?_ | refine ZF ?_ | refine Zc ?_ | refine XO_gU (hk := ?_))
          refine X_loop (ι := Nat) (fun n => mc.toNat ≤ n ∧ n ≤ s.parts.length) (fun n => [(0, .pointer (some ⟨l, 0, none⟩)), (5, .pointer (some ⟨b5, 0, none⟩)), (7, .pointer (some ⟨b, 0, none⟩)), (9, .int .i64 (n : Int))])
            (fun n => Core l mb ((((s.parts.map runP).drop n).reverse).foldl putC C1) :: pt b5 (.cells [.int .i64 mc, .int .i64 ml, .int .u64 at_, .int .u64 ob, .int .u64 pd].toArray 36 (0, 0)) :: pt b (.cells [.slice a s.parts.length c, .slice a' s.larges.length c', .int .u64 s.obj, .int .u64 s.pad].toArray 121 (0, 0)) :: Sl ePart a c s.parts :: Sl eRun a' c' s.larges :: Mp idE ptV mb (blk (M1 ++ (id, b, s) :: M2)) :: Shs (M1 ++ M2) :: F)
            (fun n => n) s.parts.length ⟨by omega, Nat.le_refl _⟩ ?_ ?_ ?_
          · (repeat (first | exact Env.sub_nil _ | refine Env.sub_cons rfl ?_))
          · rw [List.drop_of_length_le (l := s.parts.map runP) (by simp)]; ((try simp only [List.cons_append, List.nil_append]); repeat (first | exact ent_refl | refine ent_take (by repeat (first | exact Find.here | apply Find.there)) ?_ | refine ent_drop ?_))
          · rintro n ⟨hn0, hn2⟩
            dsimp only at hn0 hn2 ⊢
            repeat (first | refine Zq ?_ | refine Zs ?_ | refine ZT ?_ | refine ZF ?_ | refine Zc ?_ | refine XO_gU (hk := ?_))
            refine X_cond rfl (fun hc => ?_) (fun hc => ?_) <;> simp only [decide_eq_true_eq, decide_eq_false_iff_not] at hc
            · have hnl : n - 1 < s.parts.length := by omega
              have hnl2 : n - 1 < (s.parts.map runP).length := by simp; omega
              have hn1' : n - 1 + 1 = n := by omega
              have hto : ((n : Int) - 1).toNat = n - 1 := by omega
              have hm1 : ((n - 1 : Nat) : Int) = (n : Int) - 1 := by omega
              have hb4 : ∀ r ∈ ((s.parts.map runP).drop n).reverse, r.1 ≤ 1048576 := fun r hr => by
                obtain ⟨p, hp, rfl⟩ := List.mem_map.1 (List.mem_of_mem_drop (List.mem_reverse.1 hr))
                exact (hs1.parts p hp).2.1
              have hok := puts_ok hb4 hok1
              have hst := puts_step hnl2 C1
              rw [hn1', List.getElem_map] at hst
              have hrr := hs1.parts s.parts[n - 1] (List.getElem_mem hnl)
              refine X_slopen (E' := ePart) (a := a) (c := c) (xs := s.parts) (by (repeat (first | exact Find.here | apply Find.there))) (by omega) ?_
              rintro qb o rfl
              repeat (first | refine Zq ?_ | refine Zs ?_ | refine ZT ?_ | refine ZF ?_ | refine Zc ?_ | refine XO_gU (hk := ?_))
              simp only [hto]
              refine XO_rv (rv_elS (E' := ePart) (i := n - 1) (f := 0) (vs := [.int .i64 s.parts[n - 1].1, .int .i64 s.parts[n - 1].2.1]) (hfit := by show 0 + 2 ≤ 4; omega)) (hk := ?_)
              repeat (first | refine Zq ?_ | refine Zs ?_ | refine ZT ?_ | refine ZF ?_ | refine Zc ?_ | refine XO_gU (hk := ?_))
              refine XO_call (put_spec l mb _ (runP s.parts[n - 1]) hok hrr.1 hrr.2.1 hrr.2.2.1 hrr.2.2.2.1) (hk := ?_)
              rintro _ _ ⟨rfl, rfl⟩
              rw [← hst]
              repeat (first | refine Zq ?_ | refine Zs ?_ | refine ZT ?_ | refine ZF ?_ | refine Zc ?_ | refine XO_gU (hk := ?_))
              refine X_round (n - 1) ⟨by show _ ≤ n - 1; omega, by show n - 1 ≤ _; omega⟩ (by show n - 1 < n; omega) (by rw [hm1]; (repeat (first | exact Env.sub_nil _ | refine Env.sub_cons rfl ?_))) (by ((try simp only [List.cons_append, List.nil_append]); repeat (first | exact ent_refl | refine ent_take (by repeat (first | exact Find.here | apply Find.there)) ?_ | refine ent_drop ?_)))
            · obtain rfl : n = mc.toNat := by omega
              generalize (((s.parts.map runP).drop mc.toNat).reverse).foldl putC C1 = C2
              repeat (first | refine Zq ?_ | refine Zs ?_ | refine ZT ?_ | refine ZF ?_ | refine Zc ?_ | refine XO_gU (hk := ?_))
              repeat (first | refine XD_pick (h := ?_) | refine Dq ?_ | refine Ds ?_ | refine XDi_gF (h := ?_) | refine XDi_gU (h := ?_) | refine X_draws (h := ?_))
              refine XD_one (h := ?_)
              refine XDa_dvk0 dv_store (K := _) (hk := ?_)
              rintro _ _ rfl
              refine ⟨by (repeat (first | exact keeps_nil | exact keeps_fnil | refine keeps_skip (h := ?_) | refine keeps_takeQ (h := ?_))), ?_⟩
              repeat (first | refine XD_pick (h := ?_) | refine Dq ?_ | refine Ds ?_ | refine XDi_gF (h := ?_) | refine XDi_gU (h := ?_) | refine X_draws (h := ?_))
              refine XD_one (h := ?_)
              refine XDa_dvk0 dv_store (K := _) (hk := ?_)
              rintro _ _ rfl
              refine ⟨by (repeat (first | exact keeps_nil | exact keeps_fnil | refine keeps_skip (h := ?_) | refine keeps_takeQ (h := ?_))), ?_⟩
              (refine XD_end (h := ?_); repeat (first | refine Zq ?_ | refine Zs ?_ | refine ZT ?_ | refine ZF ?_ | refine Zc ?_ | refine XO_gU (hk := ?_)))
              refine X_conv (fun _ => SL_take (E' := ePart) (a := a) (c := c) (xs := s.parts) mc.toNat (by (repeat (first | exact Find.here | apply Find.there)))) ?_
              refine X_conv (fun _ => SL_take (E' := eRun) (a := a') (c := c') (xs := s.larges) ml.toNat (by (repeat (first | exact Find.here | apply Find.there)))) ?_
              refine X_fold (by repeat (first | exact FindAll.nil | exact Find.here | apply Find.there | apply FindAll.cons)) (Shd.foldN (b := b) (a := a) (a' := a') (c := c) (c' := c') (s := cutS s mc ml) (m := mc.toNat) (m' := ml.toNat) (by simp [cutS]; omega) (by simp [cutS]; omega)) ?_
              have hsl : (cutS s mc ml).parts.length ≤ 4611686018427387904 := by simp [cutS]; omega
              generalize cutS s mc ml = s1 at hsl hR ⊢
              repeat (first | refine XD_pick (h := ?_) | refine Dq ?_ | refine Ds ?_ | refine XDi_gF (h := ?_) | refine XDi_gU (h := ?_) | refine X_draws (h := ?_))
              refine XD_one (h := ?_)
              refine XDa_dvA (dv_call (top_spec b s1 hsl)) (hk := ?_)
              rintro _ _ ⟨_, ⟨cb, o, A, G, a5, a6, c5, c6, rfl, hCur, hfold, rfl⟩, rfl⟩
              refine ⟨by (repeat (first | exact keeps_nil | exact keeps_fnil | refine keeps_skip (h := ?_) | refine keeps_takeQ (h := ?_))), ?_⟩
              repeat (first | refine XD_pick (h := ?_) | refine Dq ?_ | refine Ds ?_ | refine XDi_gF (h := ?_) | refine XDi_gU (h := ?_) | refine X_draws (h := ?_))
              refine XD_one (h := ?_)
              refine XDa_dvk0 (hCur.store1 (a' := at_) (by (repeat (first | exact Find.here | apply Find.there))) rfl rfl) (K := _) (hk := ?_)
              rintro _ _ rfl
              refine ⟨by (repeat (first | exact keeps_nil | exact keeps_fnil | refine keeps_skip (h := ?_) | refine keeps_takeQ (h := ?_))), ?_⟩
              (refine XD_end (h := ?_); repeat (first | refine Zq ?_ | refine Zs ?_ | refine ZT ?_ | refine ZF ?_ | refine Zc ?_ | refine XO_gU (hk := ?_)))
              repeat (first | refine XD_pick (h := ?_) | refine Dq ?_ | refine Ds ?_ | refine XDi_gF (h := ?_) | refine XDi_gU (h := ?_) | refine X_draws (h := ?_))
              refine XD_one (h := ?_)
              refine XDa_dvk0 dv_store (K := _) (hk := ?_)
              rintro _ _ rfl
              refine ⟨by (repeat (first | exact keeps_nil | exact keeps_fnil | refine keeps_skip (h := ?_) | refine keeps_takeQ (h := ?_))), ?_⟩
              repeat (first | refine XD_pick (h := ?_) | refine Dq ?_ | refine Ds ?_ | refine XDi_gF (h := ?_) | refine XDi_gU (h := ?_) | refine X_draws (h := ?_))
              refine XD_one (h := ?_)
              refine XDa_dvk0 dv_store (K := _) (hk := ?_)
              rintro _ _ rfl
              refine ⟨by (repeat (first | exact keeps_nil | exact keeps_fnil | refine keeps_skip (h := ?_) | refine keeps_takeQ (h := ?_))), ?_⟩
              (refine XD_end (h := ?_); repeat (first | refine Zq ?_ | refine Zs ?_ | refine ZT ?_ | refine ZF ?_ | refine Zc ?_ | refine XO_gU (hk := ?_)))
              refine XO_fold (by repeat (first | exact FindAll.nil | exact Find.here | apply Find.there | apply FindAll.cons)) (hfold at_ ob pd) ?_
              refine XO_pv (pv_eqRec [mc, ml, at_, ob, pd] [0, 0, 0, 0, 0]) (hk := ?_)
              repeat (first | refine Zq ?_ | refine Zs ?_ | refine ZT ?_ | refine ZF ?_ | refine Zc ?_ | refine XO_gU (hk := ?_))
              refine X_cond rfl (fun h => ?_) (fun h => ?_) <;> simp only [decide_eq_true_eq, decide_eq_false_iff_not] at h
              · rw [if_pos h]
                refine X_open (A := Shd b (setTop s1 at_ ob pd)) (by (repeat (first | exact Find.here | apply Find.there))) Shd.open ?_
                rintro ⟨a7, c7, a8, c8⟩ -
                dsimp only [List.cons_append, List.nil_append]
                repeat (first | refine Zq ?_ | refine Zs ?_ | refine ZT ?_ | refine ZF ?_ | refine Zc ?_ | refine XO_gU (hk := ?_))
                refine XO_dv0 dv_storeW (hk := ?_)
                rintro _ _ rfl
                repeat (first | refine Zq ?_ | refine Zs ?_ | refine ZT ?_ | refine ZF ?_ | refine Zc ?_ | refine XO_gU (hk := ?_))
                refine XE_conv (fun _ => SL_nilSl eRun) ?_
                refine XE_conv (fun _ => SL_nilSl ePart) ?_
                refine XE_fold (by repeat (first | exact FindAll.nil | exact Find.here | apply Find.there | apply FindAll.cons)) (Shd.fold (b := b) (s := emptySh) (a := none) (c := 0) (a' := none) (c' := 0)) ?_
                refine XE_fold (by repeat (first | exact FindAll.nil | exact Find.here | apply Find.there | apply FindAll.cons)) (Lg.back _ hM hn1) ?_
                refine XE_ret (.inl rfl) (tells_tmps rfl rfl) ⟨_, ⟨rfl, rfl⟩, by ((try simp only [List.cons_append, List.nil_append]); repeat (first | exact ent_refl | refine ent_take (by repeat (first | exact Find.here | apply Find.there)) ?_ | refine ent_drop ?_))⟩
              · rw [if_neg h]
                repeat (first | refine Zq ?_ | refine Zs ?_ | refine ZT ?_ | refine ZF ?_ | refine Zc ?_ | refine XO_gU (hk := ?_))
                refine XE_fold (by repeat (first | exact FindAll.nil | exact Find.here | apply Find.there | apply FindAll.cons)) (Lg.back _ hM hn1) ?_
                refine XE_ret (.inl rfl) (tells_tmps rfl rfl) ⟨_, ⟨rfl, rfl⟩, by ((try simp only [List.cons_append, List.nil_append]); repeat (first | exact ent_refl | refine ent_take (by repeat (first | exact Find.here | apply Find.there)) ?_ | refine ent_drop ?_))⟩
end Go.Proofs.YtamecmklcnohjaaGreat.Sep
namespace Go.Proofs.YtamecmklcnohjaaGreat.Sep
open Go.RowKit
set_option linter.unusedSimpArgs false
set_option linter.unusedVariables false
/-! ranges over maps of which the entry is read behind the step -/
section
variable {P : Program} {w0 : World} {n : Nat} {Q : Exit → Act → World → Prop} {k : List KI} {e : Env} {L R : List HP} {all : Array Oper} {rest : List Oper} {ty : TypeId} {pos : String} {aft : Array Edge} {d : Nat}
variable {α κ : Type} {E' : E α} {ke : κ → Value} {ve : α → Value}
/-- A map that is gone through: p was met last. -/
def MpL {κ α : Type} (ke : κ → Value) (ve : α → Value) (b r : Nat) (l todo : List (κ × α)) (p : κ × α) : HP := fun H => (l.map (·.1)).Nodup ∧ ∃ es clock seen, ∃ en : MapEntry, H b = some (.map es clock) ∧ H r = some (.mapIter (some b) clock seen clock) ∧
  es.toList.map (fun e => (e.key, e.val)) = l.map (fun p => (ke p.1, ve p.2)) ∧ (∀ e ∈ es.toList, e.born < clock) ∧ (es.toList.map (·.born)).Nodup ∧
  (leftOf es seen).toList.map (fun e => (e.key, e.val)) = todo.map (fun p => (ke p.1, ve p.2)) ∧ en ∈ es.toList ∧ seen.back? = some en.born ∧ (en.key, en.val) = (ke p.1, ve p.2)
theorem MpL.on {b r : Nat} {l todo : List (κ × α)} {p : κ × α} : ∀ H, MpL ke ve b r l todo p H → MpI ke ve b r l todo H := by
  rintro H ⟨h1, es, clock, seen, en, h2, h3, h4, h5, h6, h7, _⟩
  exact ⟨h1, es, clock, seen, h2, h3, h4, h5, h6, h7⟩
theorem dv_nextL {b r : Nat} {l todo : List (κ × α)} {x : Operand} (hx : ev e x = some (.pointer (some ⟨r, 0, none⟩)) := by rfl) (hf : Find L (MpI ke ve b r l todo) R := by repeat (first | exact Find.here | apply Find.there)) :
    DV P w0 (.next x false) ty e L (fun v L' => (v = .tuple #[.bool false] ∧ todo = [] ∧ L' = MpI ke ve b r l [] :: R) ∨ ∃ t1 p t2, todo = t1 ++ p :: t2 ∧ v = .tuple #[.bool true, ke p.1, ve p.2] ∧ L' = MpL ke ve b r l (t1 ++ t2) p :: R) := dv_of_run fun tm w pos aft h2 h3 => by
  have h3' := h3.find hf
  obtain ⟨H0, hA0, hle0⟩ := h3'.atom
  obtain ⟨hn, es, clock, seen, hb, hr, hl, hold, hnd, htodo⟩ := hA0
  have hb1 := hle0 _ _ hb
  have hr1 := hle0 _ _ hr
  have hgr : (getObj r).run P w = .ok (.mapIter (some b) clock seen clock) w := by simp [getObj, Sem.run, hr1]
  have hgb : (getObj b).run P w = .ok (.map es clock) w := by simp [getObj, Sem.run, hb1]
  have htest := next_test_false seen es clock clock hold (Nat.le_refl _)
  have hmem : ∀ x ∈ (leftOf es seen).toList, x.born < clock := fun x hx => hold x (mem_left hx).1
  have e1 : (leftOf es seen).filter (fun x => decide (x.born < clock)) = leftOf es seen := Array.filter_eq_self.2 (fun x hx => by simpa using hmem x (by simpa using hx))
  have e2 : (leftOf es seen).filter (fun x => decide (x.born ≥ clock)) = #[] := by
    rw [Array.filter_eq_empty_iff]
    intro x hx
    have := hmem x (by simpa using hx)
    simp; omega
  have hexec : (execOp (Act.mk tm []).eval ⟨none, .next x false, ty, pos, aft, none⟩).run P w = ((Instr.next (.pointer (some ⟨r, 0, none⟩)) false ty).run P w).andThen fun v w => .ok (.value v) w := by
    simp [execOp, ev_sound h2 hx]
  rw [hexec]
  have hnx : (Instr.next (.pointer (some ⟨r, 0, none⟩)) false ty).run P w = ((choose (.mapNext (((if (leftOf es seen).isEmpty then #[none] else #[]) ++ (leftOf es seen).map some).size))).run P w).andThen fun j w => (match ((if (leftOf es seen).isEmpty then #[none] else #[]) ++ (leftOf es seen).map some)[j]? with
      | some (some e) => do
        setObj r (.mapIter (some b) clock (seen.push e.born) clock)
        pure (.tuple #[.bool true, e.key, e.val])
      | some none => pure (.tuple #[.bool false])
      | none => stuck "Next: no such candidate" : Sem Value).run P w := by
    unfold Instr.next
    simp only [Sem.run_bind, hgr, hgb, Result.andThen_ok, htest, Bool.false_eq_true, if_false]
    have e1' : Array.filter (fun x => decide (x.born < clock)) (Array.filter (fun e => !seen.contains e.born) es) = leftOf es seen := e1
    have e2' : Array.filter (fun x => decide (x.born ≥ clock)) (Array.filter (fun e => !seen.contains e.born) es) = #[] := e2
    rw [e1', e2']
    simp only [Array.append_empty]
    rfl
  rw [hnx]
  by_cases h0 : (leftOf es seen).size = 0
  · have hE : leftOf es seen = #[] := Array.eq_empty_of_size_eq_zero h0
    have ht : todo = [] := by rw [hE] at htodo; simpa using htodo.symm
    subst ht
    refine ⟨.tuple #[.bool false], w, _, ?_, .inl ⟨rfl, rfl, rfl⟩, h3'⟩
    rw [hE]
    simp [choose, Sem.run, Question.forced]
  · have hne : (leftOf es seen).isEmpty = false := by simp [Array.isEmpty, h0]
    have hch : ∃ (j : Nat) (w1 : World), j < (leftOf es seen).size ∧ (w1 = w ∨ w1 = w.drew) ∧ (choose (Question.mapNext (leftOf es seen).size)).run P w = .ok j w1 := by
      by_cases hf : (leftOf es seen).size ≤ 1
      · exact ⟨0, w, by omega, .inl rfl, by simp [choose, Sem.run, Question.forced, hf]⟩
      · exact ⟨_, w.drew, Nat.mod_lt _ (by omega), .inr rfl, by
          simp only [choose, Sem.run, Question.forced, decide_eq_true_eq, hf, if_false, Question.cut]
          rfl⟩
    obtain ⟨j, w1, hj, hw1, hrun⟩ := hch
    have hs1 : Sat w0 w1 (MpI ke ve b r l todo :: R) := by
      rcases hw1 with rfl | rfl
      · exact h3'
      · exact h3'.drew
    have hheap : w1.heap = w.heap := by rcases hw1 with rfl | rfl <;> rfl
    have hjt : j < todo.length := by
      have := congrArg List.length htodo
      simp at this; omega
    have hkv : ((leftOf es seen)[j].key, (leftOf es seen)[j].val) = (ke todo[j].1, ve todo[j].2) := by
      have := congrArg (fun q => q[j]?) htodo
      simp [hj, hjt] at this
      rw [Prod.mk.injEq]; exact this
    obtain ⟨hkv1, hkv2⟩ := Prod.mk.inj hkv
    refine ⟨.tuple #[.bool true, ke todo[j].1, ve todo[j].2], { w1 with heap := w1.heap.setIfInBounds r (.mapIter (some b) clock (seen.push (leftOf es seen)[j].born) clock) }, _, ?_, .inr ⟨todo.take j, todo[j], todo.drop (j + 1), by simp, rfl, rfl⟩, ?_⟩
    · simp only [hne, Bool.false_eq_true, if_false, Array.empty_append, Array.size_map, hrun, Result.andThen_ok, Array.getElem?_map, Array.getElem?_eq_getElem hj, Option.map_some, Sem.run_bind]
      have hr2 : w1.heap[r]? = some (.mapIter (some b) clock seen clock) := by rw [hheap]; exact hr1
      have : ∀ o' : Obj, (setObj r o').run P w1 = .ok () { w1 with heap := w1.heap.setIfInBounds r o' } := fun o' => by simp [setObj, Sem.run, hr2]
      rw [this]
      simp [hkv1, hkv2]
    · refine Sat.turn1w (b := r) hs1 (fun H hH => ?_) rfl rfl rfl (heap_set_at (by rw [hheap]; exact hr1)) (fun k hk => by simp [Array.getElem?_setIfInBounds_ne (Ne.symm hk)]) (fun H hH hleH => ?_)
      · obtain ⟨_, _, _, _, _, h, _⟩ := hH
        rw [h]; simp
      · obtain ⟨_, es', clock', seen', hb', hr', _⟩ := hH
        have hbe := hleH _ _ hb'
        rw [hheap, hb1] at hbe
        obtain ⟨rfl, rfl⟩ : es = es' ∧ clock = clock' := by simpa using hbe
        have hbr : b ≠ r := by
          rintro rfl
          rw [hb'] at hr'; cases hr'
        refine ⟨hn, es, clock, seen.push (leftOf es seen)[j].born, (leftOf es seen)[j], ?_, by simp, hl, hold, hnd, ?_, (mem_left (Array.mem_toList_iff.2 (Array.getElem_mem hj))).1, by simp, hkv⟩
        · show (if b = r then _ else H b) = _
          rw [if_neg hbr]; exact hb'
        · rw [leftOf_push hnd hj, List.map_append, List.map_take, List.map_drop, htodo, List.map_append, List.map_take, List.map_drop]
theorem rv_entry {b r : Nat} {l todo : List (κ × α)} {p : κ × α} {x : Operand} (hx : ev e x = some (.pointer (some ⟨r, 0, none⟩)) := by rfl) (hf : Find L (MpL ke ve b r l todo p) R := by repeat (first | exact Find.here | apply Find.there)) : RV P w0 (.entry x) ty e L (.tuple #[ke p.1, ve p.2]) :=
  fun tm w pos aft h2 h3 => by
    obtain ⟨H0, hA0, hle0⟩ := (h3.find hf).atom
    obtain ⟨hn, es, clock, seen, en, hb, hr, hl, hold, hnd, htodo, hmem, hback, hkv⟩ := hA0
    have hb1 := hle0 _ _ hb
    have hr1 := hle0 _ _ hr
    obtain ⟨hkv1, hkv2⟩ := Prod.mk.inj hkv
    have hgr : (getObj r).run P w = .ok (.mapIter (some b) clock seen clock) w := by simp [getObj, Sem.run, hr1]
    have hgb : (getObj b).run P w = .ok (.map es clock) w := by simp [getObj, Sem.run, hb1]
    have hfd : es.find? (·.born == en.born) = some en := by rw [← Array.find?_toList]; exact find_born en es.toList hnd hmem
    have hent : (Instr.entry (.pointer (some ⟨r, 0, none⟩))).run P w = .ok (.tuple #[ke p.1, ve p.2]) w := by
      simp only [Instr.entry, Sem.run_bind, hgr, Result.andThen_ok, hback, hgb, bne_self_eq_false, Bool.false_eq_true, if_false, hfd, hkv1, hkv2]
      rfl
    simp [execOp, ev_sound h2 hx, hent]
/-- The entry that was met is deleted while the map is gone through. -/
theorem filter_eraseIdx {β : Type} (f : β → Bool) : ∀ (l : List β) (j : Nat) (hj : j < l.length), f l[j] = false → (l.eraseIdx j).filter f = l.filter f
  | [], j, hj, _ => absurd hj (Nat.not_lt_zero _)
  | x :: l, 0, hj, h => by
    have h' : f x = false := h
    simp [h']
  | x :: l, j + 1, hj, h => by
    have := filter_eraseIdx f l j (by simpa using hj) (by simpa using h)
    simp only [List.eraseIdx_cons_succ, List.filter_cons, this]
theorem dv_deleteI [DecidableEq κ] {T T' K el : Nat} {x ix : Operand} {b r : Nat} {l todo : List (κ × α)} (kk : κ) [hu : TU P T (.map K el)] (hx : ev e x = some (.map (some b)) := by rfl)
    (hf : Find L (MpI ke ve b r l todo) R := by repeat (first | exact Find.here | apply Find.there)) (hk : ev e ix = some (ke kk) := by rfl) (ht : TK P K ke := by infer_instance) (hnt : kk ∉ todo.map (·.1)) :
    DV P w0 (.call ⟨.builtin .delete, #[x, ix], #[T, T']⟩) ty e L (fun _ L' => L' = MpI ke ve b r (del l kk) todo :: R) := dv_of_run fun tm w pos aft h2 h3 => by
  have h3' := h3.find hf
  obtain ⟨H0, hA0, hle0⟩ := h3'.atom
  obtain ⟨hn, es, clock, seen, hb0, hr0, hes, hborn, hbn, htodo⟩ := hA0
  have hb := hle0 _ _ hb0
  have h4 : (underlying T).run P w = .ok (.map K el) w := run_und hu.out
  have h5 := run_findKey ht kk w hes
  have hdel := del_at l kk 0
  have hsz : es.size = l.length := by have := congrArg List.length hes; simpa using this
  have key : ∀ es' : Array MapEntry, es'.toList.map (fun e => (e.key, e.val)) = (del l kk).map (fun p => (ke p.1, ve p.2)) → es'.toList.Sublist es.toList → (leftOf es' seen).toList = (leftOf es seen).toList →
      Sat w0 { w with heap := w.heap.setIfInBounds b (.map es' clock) } (MpI ke ve b r (del l kk) todo :: R) := by
    intro es' he hsub hleft
    refine Sat.turn1w (b := b) (o' := .map es' clock) h3' (fun H hH => ?_) rfl rfl rfl (heap_set_at hb) (fun k hk => by simp [Array.getElem?_setIfInBounds_ne (Ne.symm hk)]) (fun H hH hleH => ?_)
    · obtain ⟨_, _, _, _, h, _⟩ := hH
      rw [h]; simp
    · obtain ⟨_, es2, clock2, seen2, hb2, hr2, _, _, _, htodo2⟩ := hH
      have hbe := hleH _ _ hb2
      rw [hb] at hbe
      obtain ⟨rfl, rfl⟩ : es = es2 ∧ clock = clock2 := by simpa using hbe
      have hre := hleH _ _ hr2
      have hre0 := hle0 _ _ hr0
      rw [hre0] at hre
      obtain rfl : seen = seen2 := by simpa using hre
      have hbr : r ≠ b := by
        rintro rfl
        rw [hb2] at hr2; cases hr2
      refine ⟨nodup_del hn kk, es', clock, seen, by simp, ?_, he, fun en hen => hborn en (hsub.subset hen), (hsub.map _).nodup hbn, by rw [hleft]; exact htodo⟩
      show (if r = b then _ else H r) = _
      rw [if_neg hbr]; exact hr2
  cases hfi : findIx l kk 0 with
  | none =>
    rw [hfi] at hdel h5
    refine ⟨.tuple #[], _, _, ?_, rfl, key es ?_ (List.Sublist.refl _) rfl⟩
    · simp [execOp, resolve, invoke, builtin, Builtin.delete_, ev_sound h2 hx, ev_sound h2 hk, h4, run_getMap hb, ht.check, h5, run_setMap hb]
    · simp only at hdel; rw [hdel]; exact hes
  | some p =>
    obtain ⟨j, u⟩ := p
    have hkey := ins_at l kk u 0
    rw [hfi] at hdel h5 hkey
    obtain ⟨m, hjm, hm, hdel⟩ := hdel
    obtain rfl : j = m := by omega
    obtain ⟨m2, hjm2, _, _, hkm⟩ := hkey
    obtain rfl : j = m2 := by omega
    have hjs : j < es.size := by omega
    have hent : es.toList[j].key = ke kk := by
      have h6 := congrArg (fun q => q[j]?) hes
      have h7 : l[j]? = some l[j] := List.getElem?_eq_getElem hm
      simp [hjs, hm] at h6
      rw [List.getElem?_map, h7] at hkm
      simp at hkm
      rw [← hkm]
      simpa using h6.1
    refine ⟨.tuple #[], _, _, ?_, rfl, key (es.eraseIdxIfInBounds j) ?_ ?_ ?_⟩
    · simp [execOp, resolve, invoke, builtin, Builtin.delete_, ev_sound h2 hx, ev_sound h2 hk, h4, run_getMap hb, ht.check, h5, run_setMap hb]
    · rw [hdel]
      simp only [Array.eraseIdxIfInBounds, hjs, dif_pos, Array.toList_eraseIdx]
      have he : ∀ {β γ : Type} (f : β → γ) (l : List β) (i : Nat), (l.eraseIdx i).map f = (l.map f).eraseIdx i := by
        intro β γ f l
        induction l with
        | nil => intro i; rfl
        | cons a l ih => intro i; cases i <;> simp [ih]
      rw [he, he, hes]
    · simp only [Array.eraseIdxIfInBounds, hjs, dif_pos, Array.toList_eraseIdx]
      exact List.eraseIdx_sublist _ _
    · simp only [Array.eraseIdxIfInBounds, hjs, dif_pos]
      unfold leftOf
      rw [Array.toList_filter, Array.toList_filter, Array.toList_eraseIdx]
      refine filter_eraseIdx _ _ _ (by simpa using hjs) ?_
      cases hc : (!seen.contains es.toList[j].born) with
      | false => rfl
      | true =>
        exfalso
        have hin : es.toList[j] ∈ (leftOf es seen).toList := by
          unfold leftOf
          rw [Array.toList_filter, List.mem_filter]
          exact ⟨List.getElem_mem _, hc⟩
        have h8 : (es.toList[j].key, es.toList[j].val) ∈ (leftOf es seen).toList.map (fun e => (e.key, e.val)) := List.mem_map.2 ⟨_, hin, rfl⟩
        rw [htodo] at h8
        obtain ⟨q, hq, hqe⟩ := List.mem_map.1 h8
        have h9 : ke q.1 = ke kk := by rw [← hent]; exact congrArg Prod.fst hqe
        exact hnt (List.mem_map.2 ⟨q, hq, ht.inj _ _ h9⟩)
end
end Go.Proofs.YtamecmklcnohjaaGreat.Sep
namespace Go.Proofs.YtamecmklcnohjaaGreat.Sep
open Go.RowKit
set_option linter.unusedSimpArgs false
set_option linter.unusedVariables false
def sumF (f : Sh → Int) : List (Int × Sh) → Int
  | [] => 0
  | q :: l => f q.2 + sumF f l
theorem sumF_append (f : Sh → Int) : ∀ l l', sumF f (l ++ l') = sumF f l + sumF f l'
  | [], l' => by simp [sumF]
  | q :: l, l' => by simp only [List.cons_append, sumF, sumF_append f l l']; omega
theorem sumF_perm (f : Sh → Int) {l l' : List (Int × Sh)} (h : l.Perm l') : sumF f l = sumF f l' := by
  induction h with
  | nil => rfl
  | cons x _ ih => simp only [sumF, ih]
  | swap x y l => simp only [sumF]; omega
  | trans _ _ h1 h2 => exact h1.trans h2
theorem sumG_bd : ∀ {l : List (Int × Sh)}, (∀ q ∈ l, ShB q.2) → 0 ≤ sumF shPages l ∧ sumF shPages l ≤ 2199023255552 * l.length
  | [], _ => by simp [sumF]
  | q :: l, h => by
    have h1 := shPages_bd (h q (by simp))
    have h2 := sumG_bd (l := l) fun r hr => h r (by simp [hr])
    simp only [sumF, List.length_cons]; push_cast; omega
def slackI (rg : List (Int × Sh)) : Int :=
  IntKind.u64.wrap (IntKind.u64.wrap (IntKind.u64.wrap (IntKind.u64.wrap (sumF shPages rg * 4096) - IntKind.u64.wrap (sumF shHdr rg)) - IntKind.u64.wrap (sumF Sh.obj rg)) - IntKind.u64.wrap (sumF Sh.pad rg))
def meterL (C : Co) (rg : List (Int × Sh)) : List Int :=
  [C.P - totI C.fr, kpages C.ks 7, totI C.fr, (C.fr.length : Int), IntKind.u64.wrap (sumF Sh.obj rg), IntKind.u64.wrap (sumF Sh.pad rg), IntKind.u64.wrap (sumF shHdr rg), slackI rg]
attribute [local irreducible] Core Shd Shs Lg MpI MpL
set_option maxHeartbeats 8000000
attribute [local irreducible] X XE XO XD XDi XDa PV RV DV pt base Spec Sl Mp Keeps Pg Kc
theorem meter_spec (l : Nat) (C : Co) (rg : List (Int × Sh)) (hC : CoOk C) (hS : ∀ q ∈ rg, ShB q.2) (hn : rg.length ≤ 100000) :
    Spec Tryz.prog 26 [.pointer (some ⟨l, 0, none⟩)] [Lg l C rg] (fun v L => v = .agg (recCells mKs (meterL C rg)).toArray ∧ L = [Lg l C rg]) := by
  refine Spec.intro (IsEnt.out) Tryz.func26 rfl Tryz.ntmps26 (by simp) (fun w0 F => ?_)
  simp only [envOf, List.zipIdx, List.map, List.cons_append, List.nil_append, Nat.zero_add, Nat.reduceAdd]
  have hfl := rf_len' (by have := hC.p1; omega) hC.p2 hC.right
  have hfb := rf_bd hC.p2 hC.right
  have htr := tot_right (by have := hC.p1; omega) hC.right
  have hp2 := hC.p2
  have hp1 := hC.p1
  refine X_open .here Lg.open ?_
  rintro ⟨mb, M⟩ hM
  dsimp only [List.cons_append, List.nil_append] at hM ⊢
  refine X_open (A := Core l mb C) (by (repeat (first | exact Find.here | apply Find.there))) Core.open ?_
  rintro ⟨pb, kb, t⟩ -
  dsimp only [List.cons_append, List.nil_append]
  repeat (first | refine Zq ?_ | refine Zs ?_ | refine ZT ?_ | refine ZF ?_ | refine Zc ?_ | refine XO_gU (hk := ?_))
  refine XO_dv dv_alloc (hk := ?_)
  rintro _ _ ⟨gb, rfl, rfl⟩
  repeat (first | refine Zq ?_ | refine Zs ?_ | refine ZT ?_ | refine ZF ?_ | refine Zc ?_ | refine XO_gU (hk := ?_))
  refine X_cond rfl (fun h => by cases h) (fun _ => ?_)
  repeat (first | refine Zq ?_ | refine Zs ?_ | refine ZT ?_ | refine ZF ?_ | refine Zc ?_ | refine XO_gU (hk := ?_))
  refine X_join (ι := Nat) (fun _ => True) (fun m => [(0, .pointer (some ⟨l, 0, none⟩)), (2, .pointer (some ⟨gb, 0, none⟩)), (3, .pointer (some ⟨m, 0, none⟩))])
    (fun m => pt m (.cells [.int .i64 0, .int .i64 (kpages C.ks 7), .int .i64 (totI C.fr), .int .i64 (C.fr.length : Int), .int .u64 0, .int .u64 0, .int .u64 0, .int .u64 0].toArray 51 (0, 0)) :: pt gb (.cells [.int .i64 0, .int .i64 0, .int .i64 0, .int .i64 0, .int .u64 0, .int .u64 0, .int .u64 0, .int .u64 0].toArray 51 (0, 0)) :: pt l (.cells [.pointer (some ⟨pb, 0, none⟩), .pointer (some ⟨kb, 0, none⟩), .map (some mb)].toArray 105 (0, 0)) :: Pg pb C.P C.fr t :: Kc kb C.ks :: Mp idE ptV mb (blk M) :: Shs M :: F) ?_ ?_
  · repeat (first | refine XD_pick (h := ?_) | refine Dq ?_ | refine Ds ?_ | refine XDi_gF (h := ?_) | refine XDi_gU (h := ?_) | refine X_draws (h := ?_))
    refine XD_two (h := ?_) (h' := ?_)
    · refine XDa_dvA (dv_call (cpagesum_spec kb C.ks)) (hk := ?_)
      (rintro _ _ ⟨_, ⟨rfl, rfl⟩, rfl⟩; refine ⟨by (repeat (first | exact keeps_nil | exact keeps_fnil | refine keeps_skip (h := ?_) | refine keeps_takeQ (h := ?_))), ?_⟩)
      repeat (first | refine XD_pick (h := ?_) | refine Dq ?_ | refine Ds ?_ | refine XDi_gF (h := ?_) | refine XDi_gU (h := ?_) | refine X_draws (h := ?_))
      refine XD_two (h := ?_) (h' := ?_)
      · refine XDa_dvA (dv_call (pfree_spec pb C.P t C.fr hfl hfb)) (hk := ?_)
        (rintro _ _ ⟨_, ⟨rfl, rfl⟩, rfl⟩; refine ⟨by (repeat (first | exact keeps_nil | exact keeps_fnil | refine keeps_skip (h := ?_) | refine keeps_takeQ (h := ?_))), ?_⟩)
        repeat (first | refine XD_pick (h := ?_) | refine Dq ?_ | refine Ds ?_ | refine XDi_gF (h := ?_) | refine XDi_gU (h := ?_) | refine X_draws (h := ?_))
        refine XD_two (h := ?_) (h' := ?_)
        · refine XDa_dvA (dv_call (pruns_spec pb C.P t C.fr hfl)) (hk := ?_)
          rintro _ _ ⟨_, ⟨ra, rc, rfl, rfl⟩, rfl⟩
          refine ⟨by (repeat (first | exact keeps_nil | exact keeps_fnil | refine keeps_skip (h := ?_) | refine keeps_takeQ (h := ?_))), ?_⟩
          repeat (first | refine XD_pick (h := ?_) | refine Dq ?_ | refine Ds ?_ | refine XDi_gF (h := ?_) | refine XDi_gU (h := ?_) | refine X_draws (h := ?_))
          refine XDi_pvA (pv_buildG [.int .i64 0, .int .i64 (kpages C.ks 7), .int .i64 (totI C.fr), .int .i64 (C.fr.length : Int), .int .u64 0, .int .u64 0, .int .u64 0, .int .u64 0]) (h := ?_)
          repeat (first | refine XD_pick (h := ?_) | refine Dq ?_ | refine Ds ?_ | refine XDi_gF (h := ?_) | refine XDi_gU (h := ?_) | refine X_draws (h := ?_))
          refine XD_one (h := ?_)
          refine XDa_dvA dv_alloc (hk := ?_)
          rintro _ _ ⟨m, rfl, rfl⟩
          refine ⟨by (repeat (first | exact keeps_nil | exact keeps_fnil | refine keeps_skip (h := ?_) | refine keeps_takeQ (h := ?_))), ?_⟩
          repeat (first | refine XD_pick (h := ?_) | refine Dq ?_ | refine Ds ?_ | refine XDi_gF (h := ?_) | refine XDi_gU (h := ?_) | refine X_draws (h := ?_))
          refine XD_one (h := ?_)
          refine XDa_dvk0 dv_storeW (K := _) (hk := ?_)
          rintro _ _ rfl
          refine ⟨by (repeat (first | exact keeps_nil | exact keeps_fnil | refine keeps_skip (h := ?_) | refine keeps_takeQ (h := ?_))), ?_⟩
          refine XD_end (h := ?_)
          refine X_meet m trivial (by (repeat (first | exact Env.sub_nil _ | refine Env.sub_cons rfl ?_))) (by ((try simp only [List.cons_append, List.nil_append]); repeat (first | exact ent_refl | refine ent_take (by repeat (first | exact Find.here | apply Find.there)) ?_ | refine ent_drop ?_)))
        · refine XDa_dvA dv_alloc (hk := ?_)
          rintro _ _ ⟨m, rfl, rfl⟩
          refine ⟨by (repeat (first | exact keeps_nil | exact keeps_fnil | refine keeps_skip (h := ?_) | refine keeps_takeQ (h := ?_))), ?_⟩
          repeat (first | refine XD_pick (h := ?_) | refine Dq ?_ | refine Ds ?_ | refine XDi_gF (h := ?_) | refine XDi_gU (h := ?_) | refine X_draws (h := ?_))
          refine XD_one (h := ?_)
          refine XDa_dvA (dv_call (pruns_spec pb C.P t C.fr hfl)) (hk := ?_)
          rintro _ _ ⟨_, ⟨ra, rc, rfl, rfl⟩, rfl⟩
          refine ⟨by (repeat (first | exact keeps_nil | exact keeps_fnil | refine keeps_skip (h := ?_) | refine keeps_takeQ (h := ?_))), ?_⟩
          repeat (first | refine XD_pick (h := ?_) | refine Dq ?_ | refine Ds ?_ | refine XDi_gF (h := ?_) | refine XDi_gU (h := ?_) | refine X_draws (h := ?_))
          refine XDi_pvA (pv_buildG [.int .i64 0, .int .i64 (kpages C.ks 7), .int .i64 (totI C.fr), .int .i64 (C.fr.length : Int), .int .u64 0, .int .u64 0, .int .u64 0, .int .u64 0]) (h := ?_)
          repeat (first | refine XD_pick (h := ?_) | refine Dq ?_ | refine Ds ?_ | refine XDi_gF (h := ?_) | refine XDi_gU (h := ?_) | refine X_draws (h := ?_))
          refine XD_one (h := ?_)
          refine XDa_dvk0 dv_storeW (K := _) (hk := ?_)
          rintro _ _ rfl
          refine ⟨by (repeat (first | exact keeps_nil | exact keeps_fnil | refine keeps_skip (h := ?_) | refine keeps_takeQ (h := ?_))), ?_⟩
          refine XD_end (h := ?_)
          refine X_meet m trivial (by (repeat (first | exact Env.sub_nil _ | refine Env.sub_cons rfl ?_))) (by ((try simp only [List.cons_append, List.nil_append]); repeat (first | exact ent_refl | refine ent_take (by repeat (first | exact Find.here | apply Find.there)) ?_ | refine ent_drop ?_)))
      · refine XDa_dvA dv_alloc (hk := ?_)
        rintro _ _ ⟨m, rfl, rfl⟩
        refine ⟨by (repeat (first | exact keeps_nil | exact keeps_fnil | refine keeps_skip (h := ?_) | refine keeps_takeQ (h := ?_))), ?_⟩
        repeat (first | refine XD_pick (h := ?_) | refine Dq ?_ | refine Ds ?_ | refine XDi_gF (h := ?_) | refine XDi_gU (h := ?_) | refine X_draws (h := ?_))
        refine XD_one (h := ?_)
        refine XDa_dvA (dv_call (pfree_spec pb C.P t C.fr hfl hfb)) (hk := ?_)
        (rintro _ _ ⟨_, ⟨rfl, rfl⟩, rfl⟩; refine ⟨by (repeat (first | exact keeps_nil | exact keeps_fnil | refine keeps_skip (h := ?_) | refine keeps_takeQ (h := ?_))), ?_⟩)
        repeat (first | refine XD_pick (h := ?_) | refine Dq ?_ | refine Ds ?_ | refine XDi_gF (h := ?_) | refine XDi_gU (h := ?_) | refine X_draws (h := ?_))
        refine XD_one (h := ?_)
        refine XDa_dvA (dv_call (pruns_spec pb C.P t C.fr hfl)) (hk := ?_)
        rintro _ _ ⟨_, ⟨ra, rc, rfl, rfl⟩, rfl⟩
        refine ⟨by (repeat (first | exact keeps_nil | exact keeps_fnil | refine keeps_skip (h := ?_) | refine keeps_takeQ (h := ?_))), ?_⟩
        repeat (first | refine XD_pick (h := ?_) | refine Dq ?_ | refine Ds ?_ | refine XDi_gF (h := ?_) | refine XDi_gU (h := ?_) | refine X_draws (h := ?_))
        refine XDi_pvA (pv_buildG [.int .i64 0, .int .i64 (kpages C.ks 7), .int .i64 (totI C.fr), .int .i64 (C.fr.length : Int), .int .u64 0, .int .u64 0, .int .u64 0, .int .u64 0]) (h := ?_)
        repeat (first | refine XD_pick (h := ?_) | refine Dq ?_ | refine Ds ?_ | refine XDi_gF (h := ?_) | refine XDi_gU (h := ?_) | refine X_draws (h := ?_))
        refine XD_one (h := ?_)
        refine XDa_dvk0 dv_storeW (K := _) (hk := ?_)
        rintro _ _ rfl
        refine ⟨by (repeat (first | exact keeps_nil | exact keeps_fnil | refine keeps_skip (h := ?_) | refine keeps_takeQ (h := ?_))), ?_⟩
        refine XD_end (h := ?_)
        refine X_meet m trivial (by (repeat (first | exact Env.sub_nil _ | refine Env.sub_cons rfl ?_))) (by ((try simp only [List.cons_append, List.nil_append]); repeat (first | exact ent_refl | refine ent_take (by repeat (first | exact Find.here | apply Find.there)) ?_ | refine ent_drop ?_)))
    · refine XDa_dvA dv_alloc (hk := ?_)
      rintro _ _ ⟨m, rfl, rfl⟩
      refine ⟨by (repeat (first | exact keeps_nil | exact keeps_fnil | refine keeps_skip (h := ?_) | refine keeps_takeQ (h := ?_))), ?_⟩
      repeat (first | refine XD_pick (h := ?_) | refine Dq ?_ | refine Ds ?_ | refine XDi_gF (h := ?_) | refine XDi_gU (h := ?_) | refine X_draws (h := ?_))
      refine XD_one (h := ?_)
      refine XDa_dvA (dv_call (cpagesum_spec kb C.ks)) (hk := ?_)
      (rintro _ _ ⟨_, ⟨rfl, rfl⟩, rfl⟩; refine ⟨by (repeat (first | exact keeps_nil | exact keeps_fnil | refine keeps_skip (h := ?_) | refine keeps_takeQ (h := ?_))), ?_⟩)
      repeat (first | refine XD_pick (h := ?_) | refine Dq ?_ | refine Ds ?_ | refine XDi_gF (h := ?_) | refine XDi_gU (h := ?_) | refine X_draws (h := ?_))
      refine XD_one (h := ?_)
      refine XDa_dvA (dv_call (pfree_spec pb C.P t C.fr hfl hfb)) (hk := ?_)
      (rintro _ _ ⟨_, ⟨rfl, rfl⟩, rfl⟩; refine ⟨by (repeat (first | exact keeps_nil | exact keeps_fnil | refine keeps_skip (h := ?_) | refine keeps_takeQ (h := ?_))), ?_⟩)
      repeat (first | refine XD_pick (h := ?_) | refine Dq ?_ | refine Ds ?_ | refine XDi_gF (h := ?_) | refine XDi_gU (h := ?_) | refine X_draws (h := ?_))
      refine XD_one (h := ?_)
      refine XDa_dvA (dv_call (pruns_spec pb C.P t C.fr hfl)) (hk := ?_)
      rintro _ _ ⟨_, ⟨ra, rc, rfl, rfl⟩, rfl⟩
      refine ⟨by (repeat (first | exact keeps_nil | exact keeps_fnil | refine keeps_skip (h := ?_) | refine keeps_takeQ (h := ?_))), ?_⟩
      repeat (first | refine XD_pick (h := ?_) | refine Dq ?_ | refine Ds ?_ | refine XDi_gF (h := ?_) | refine XDi_gU (h := ?_) | refine X_draws (h := ?_))
      refine XDi_pvA (pv_buildG [.int .i64 0, .int .i64 (kpages C.ks 7), .int .i64 (totI C.fr), .int .i64 (C.fr.length : Int), .int .u64 0, .int .u64 0, .int .u64 0, .int .u64 0]) (h := ?_)
      repeat (first | refine XD_pick (h := ?_) | refine Dq ?_ | refine Ds ?_ | refine XDi_gF (h := ?_) | refine XDi_gU (h := ?_) | refine X_draws (h := ?_))
      refine XD_one (h := ?_)
      refine XDa_dvk0 dv_storeW (K := _) (hk := ?_)
      rintro _ _ rfl
      refine ⟨by (repeat (first | exact keeps_nil | exact keeps_fnil | refine keeps_skip (h := ?_) | refine keeps_takeQ (h := ?_))), ?_⟩
      refine XD_end (h := ?_)
      refine X_meet m trivial (by (repeat (first | exact Env.sub_nil _ | refine Env.sub_cons rfl ?_))) (by ((try simp only [List.cons_append, List.nil_append]); repeat (first | exact ent_refl | refine ent_take (by repeat (first | exact Find.here | apply Find.there)) ?_ | refine ent_drop ?_)))
  rintro m -
  repeat (first | refine Zq ?_ | refine Zs ?_ | refine ZT ?_ | refine ZF ?_ | refine Zc ?_ | refine XO_gU (hk := ?_))
  repeat (first | refine XD_pick (h := ?_) | refine Dq ?_ | refine Ds ?_ | refine XDi_gF (h := ?_) | refine XDi_gU (h := ?_) | refine X_draws (h := ?_))
  refine XD_one (h := ?_)
  refine XDa_dvA (dv_call (ppages_spec pb C.P t C.fr)) (hk := ?_)
  (rintro _ _ ⟨_, ⟨rfl, rfl⟩, rfl⟩; refine ⟨by (repeat (first | exact keeps_nil | exact keeps_fnil | refine keeps_skip (h := ?_) | refine keeps_takeQ (h := ?_))), ?_⟩)
  repeat (first | refine XD_pick (h := ?_) | refine Dq ?_ | refine Ds ?_ | refine XDi_gF (h := ?_) | refine XDi_gU (h := ?_) | refine X_draws (h := ?_))
  refine XD_one (h := ?_)
  refine XDa_dvk0 dv_store (K := _) (hk := ?_)
  rintro _ _ rfl
  refine ⟨by (repeat (first | exact keeps_nil | exact keeps_fnil | refine keeps_skip (h := ?_) | refine keeps_takeQ (h := ?_))), ?_⟩
  (refine XD_end (h := ?_); repeat (first | refine Zq ?_ | refine Zs ?_ | refine ZT ?_ | refine ZF ?_ | refine Zc ?_ | refine XO_gU (hk := ?_)))
  refine XO_dv (dv_range (ke := idE) (ve := ptV) (l := blk M)) (hk := ?_)
  rintro _ _ ⟨r, rfl, rfl⟩
  refine XO_fold (by repeat (first | exact FindAll.nil | exact Find.here | apply Find.there | apply FindAll.cons)) (Core.fold (C := C)) ?_
  repeat (first | refine Zq ?_ | refine Zs ?_ | refine ZT ?_ | refine ZF ?_ | refine Zc ?_ | refine XO_gU (hk := ?_))
  have hzero : IntKind.u64.wrap 0 = 0 := by decide
  refine X_loop (ι := List (Int × Nat × Sh) × List (Int × Nat × Sh)) (fun q => (q.1 ++ q.2).Perm M) (fun q => [(0, .pointer (some ⟨l, 0, none⟩)), (2, .pointer (some ⟨gb, 0, none⟩)), (3, .pointer (some ⟨m, 0, none⟩)), (44, .pointer (some ⟨r, 0, none⟩)), (4, .int .i64 (sumF shPages (rgs q.1)))])
    (fun q => Core l mb C :: MpI idE ptV mb r (blk M) (blk q.2) :: pt m (.cells [.int .i64 (C.P - totI C.fr), .int .i64 (kpages C.ks 7), .int .i64 (totI C.fr), .int .i64 (C.fr.length : Int), .int .u64 (IntKind.u64.wrap (sumF Sh.obj (rgs q.1))), .int .u64 (IntKind.u64.wrap (sumF Sh.pad (rgs q.1))), .int .u64 (IntKind.u64.wrap (sumF shHdr (rgs q.1))), .int .u64 (0)].toArray 51 (0, 0)) :: pt gb (.cells [.int .i64 0, .int .i64 0, .int .i64 0, .int .i64 0, .int .u64 0, .int .u64 0, .int .u64 0, .int .u64 0].toArray 51 (0, 0)) :: Shs M :: F) (fun q => q.2.length) ([], M) (List.Perm.refl _) ?_ ?_ ?_
  · (repeat (first | exact Env.sub_nil _ | refine Env.sub_cons rfl ?_))
  · simp only [rgs, List.map_nil, sumF, hzero]; ((try simp only [List.cons_append, List.nil_append]); repeat (first | exact ent_refl | refine ent_take (by repeat (first | exact Find.here | apply Find.there)) ?_ | refine ent_drop ?_))
  rintro ⟨D, T⟩ hperm
  dsimp only at hperm ⊢
  have hDM : ∀ q ∈ rgs D, ShB q.2 := fun q hq => by
    refine hS q ?_
    rw [← hM]
    obtain ⟨z, hz, rfl⟩ := List.mem_map.1 hq
    exact List.mem_map.2 ⟨z, hperm.mem_iff.1 (List.mem_append_left _ hz), rfl⟩
  have hlen : (rgs D).length + T.length = rg.length := by
    have := hperm.length_eq
    rw [← hM]
    simp [rgs] at this ⊢; omega
  have hGD := sumG_bd hDM
  repeat (first | refine Zq ?_ | refine Zs ?_ | refine ZT ?_ | refine ZF ?_ | refine Zc ?_ | refine XO_gU (hk := ?_))
  refine XO_dv (dv_nextL (ke := idE) (ve := ptV) (l := blk M) (todo := blk T)) (hk := ?_)
  rintro _ _ (⟨rfl, hT0, rfl⟩ | ⟨t1, p, t2, ht, rfl, rfl⟩)
  · refine XO_conv (fun _ => SL.head MpI.done) ?_
    have hT : T = [] := by cases T with
      | nil => rfl
      | cons => simp [blk] at hT0
    subst hT
    rw [List.append_nil] at hperm
    have hpr : (rgs D).Perm rg := by rw [← hM]; exact hperm.map _
    have hGr := sumG_bd hS
    rw [sumF_perm Sh.obj hpr, sumF_perm Sh.pad hpr, sumF_perm shHdr hpr, sumF_perm shPages hpr]
    repeat (first | refine Zq ?_ | refine Zs ?_ | refine ZT ?_ | refine ZF ?_ | refine Zc ?_ | refine XO_gU (hk := ?_))
    refine X_cond rfl (fun h => by cases h) (fun _ => ?_)
    repeat (first | refine Zq ?_ | refine Zs ?_ | refine ZT ?_ | refine ZF ?_ | refine Zc ?_ | refine XO_gU (hk := ?_))
    refine XO_dv0 dv_store (hk := ?_)
    rintro _ _ rfl
    repeat (first | refine Zq ?_ | refine Zs ?_ | refine ZT ?_ | refine ZF ?_ | refine Zc ?_ | refine XO_gU (hk := ?_))
    refine XO_dv0 dv_storeW (hk := ?_)
    rintro _ _ rfl
    repeat (first | refine Zq ?_ | refine Zs ?_ | refine ZT ?_ | refine ZF ?_ | refine Zc ?_ | refine XO_gU (hk := ?_))
    refine XE_fold (by repeat (first | exact FindAll.nil | exact Find.here | apply Find.there | apply FindAll.cons)) (Lg.fold hM) ?_
    refine XE_ret (.inl rfl) (tells_cell rfl) ⟨_, ⟨rfl, rfl⟩, by ((try simp only [List.cons_append, List.nil_append]); repeat (first | exact ent_refl | refine ent_take (by repeat (first | exact Find.here | apply Find.there)) ?_ | refine ent_drop ?_))⟩
  · obtain ⟨T1, z, T2, hTz, ht1, hz, ht2⟩ : ∃ T1 z T2, T = T1 ++ z :: T2 ∧ t1 = blk T1 ∧ p = (z.1, some z.2.1) ∧ t2 = blk T2 := by
      unfold blk at ht
      obtain ⟨T1, T3, h1, h2, h3⟩ := List.map_eq_append_iff.1 ht
      obtain ⟨z, T2, h4, h5, h6⟩ := List.map_eq_cons_iff.1 h3
      exact ⟨T1, z, T2, by rw [h1, h4], h2.symm, h5.symm, h6.symm⟩
    subst hTz ht1 hz ht2
    obtain ⟨id, b, s⟩ := z
    have hzM : (id, b, s) ∈ M := hperm.mem_iff.1 (by simp)
    obtain ⟨M1, M2, rfl⟩ := List.append_of_mem hzM
    have hsB : ShB s := hS (id, s) (by rw [← hM]; simp [rgs])
    have hs1 := hsB.lp
    have hs2 := hsB.ll
    have hsp := shPages_bd hsB
    repeat (first | refine Zq ?_ | refine Zs ?_ | refine ZT ?_ | refine ZF ?_ | refine Zc ?_ | refine XO_gU (hk := ?_))
    refine X_cond rfl (fun _ => ?_) (fun h => by cases h)
    repeat (first | refine Zq ?_ | refine Zs ?_ | refine ZT ?_ | refine ZF ?_ | refine Zc ?_ | refine XO_gU (hk := ?_))
    refine XO_rv (rv_entry (ke := idE) (ve := ptV)) (hk := ?_)
    refine XO_conv (L' := MpI idE ptV mb r (blk (M1 ++ (id, b, s) :: M2)) (blk T1 ++ blk T2) :: _) (fun _ => SL.head MpL.on) ?_
    refine XO_open (A := Shs (M1 ++ (id, b, s) :: M2)) (by (repeat (first | exact Find.here | apply Find.there))) Shs.out ?_
    rintro ⟨⟩ -
    dsimp only [List.cons_append, List.nil_append]
    refine XO_open (A := Shd b s) (by (repeat (first | exact Find.here | apply Find.there))) Shd.open ?_
    rintro ⟨a, c, a', c'⟩ -
    dsimp only [List.cons_append, List.nil_append, ptV, Option.map_some]
    repeat (first | refine Zq ?_ | refine Zs ?_ | refine ZT ?_ | refine ZF ?_ | refine Zc ?_ | refine XO_gU (hk := ?_))
    repeat (first | refine XD_pick (h := ?_) | refine Dq ?_ | refine Ds ?_ | refine XDi_gF (h := ?_) | refine XDi_gU (h := ?_) | refine X_draws (h := ?_))
    rw [wrap_add]
    refine XD_one (h := ?_)
    refine XDa_dvk0 dv_store (K := _) (hk := ?_)
    rintro _ _ rfl
    refine ⟨by (repeat (first | exact keeps_nil | exact keeps_fnil | refine keeps_skip (h := ?_) | refine keeps_takeQ (h := ?_))), ?_⟩
    (refine XD_end (h := ?_); repeat (first | refine Zq ?_ | refine Zs ?_ | refine ZT ?_ | refine ZF ?_ | refine Zc ?_ | refine XO_gU (hk := ?_)))
    repeat (first | refine XD_pick (h := ?_) | refine Dq ?_ | refine Ds ?_ | refine XDi_gF (h := ?_) | refine XDi_gU (h := ?_) | refine X_draws (h := ?_))
    rw [wrap_add]
    refine XD_one (h := ?_)
    refine XDa_dvk0 dv_store (K := _) (hk := ?_)
    rintro _ _ rfl
    refine ⟨by (repeat (first | exact keeps_nil | exact keeps_fnil | refine keeps_skip (h := ?_) | refine keeps_takeQ (h := ?_))), ?_⟩
    (refine XD_end (h := ?_); repeat (first | refine Zq ?_ | refine Zs ?_ | refine ZT ?_ | refine ZF ?_ | refine Zc ?_ | refine XO_gU (hk := ?_)))
    repeat (first | refine XD_pick (h := ?_) | refine Dq ?_ | refine Ds ?_ | refine XDi_gF (h := ?_) | refine XDi_gU (h := ?_) | refine X_draws (h := ?_))
    rw [wrap_add]
    refine XD_one (h := ?_)
    refine XDa_dvk0 dv_store (K := _) (hk := ?_)
    rintro _ _ rfl
    refine ⟨by (repeat (first | exact keeps_nil | exact keeps_fnil | refine keeps_skip (h := ?_) | refine keeps_takeQ (h := ?_))), ?_⟩
    (refine XD_end (h := ?_); repeat (first | refine Zq ?_ | refine Zs ?_ | refine ZT ?_ | refine ZF ?_ | refine Zc ?_ | refine XO_gU (hk := ?_)))
    have hGD2 : (rgs D).length ≤ 100000 := by omega
    refine X_loop (ι := Nat) (fun j => j ≤ s.parts.length) (fun j => [(0, .pointer (some ⟨l, 0, none⟩)), (2, .pointer (some ⟨gb, 0, none⟩)), (3, .pointer (some ⟨m, 0, none⟩)), (44, .pointer (some ⟨r, 0, none⟩)), (6, .pointer (some ⟨b, 0, none⟩)), (85, .slice a s.parts.length c), (86, .int .i64 (s.parts.length : Int)), (87, .int .i64 (j : Int)), (4, .int .i64 (sumF shPages (rgs D) + totI ((s.parts.map runP).take j)))])
      (fun _ => Core l mb C :: MpI idE ptV mb r (blk (M1 ++ (id, b, s) :: M2)) (blk T1 ++ blk T2) :: pt m (.cells [.int .i64 (C.P - totI C.fr), .int .i64 (kpages C.ks 7), .int .i64 (totI C.fr), .int .i64 (C.fr.length : Int), .int .u64 (IntKind.u64.wrap (sumF Sh.obj (rgs D) + s.obj)), .int .u64 (IntKind.u64.wrap (sumF Sh.pad (rgs D) + s.pad)), .int .u64 (IntKind.u64.wrap (sumF shHdr (rgs D) + shHdr s)), .int .u64 0].toArray 51 (0, 0)) :: pt gb (.cells [.int .i64 0, .int .i64 0, .int .i64 0, .int .i64 0, .int .u64 0, .int .u64 0, .int .u64 0, .int .u64 0].toArray 51 (0, 0)) :: pt b (.cells [.slice a s.parts.length c, .slice a' s.larges.length c', .int .u64 s.obj, .int .u64 s.pad].toArray 121 (0, 0)) :: Sl ePart a c s.parts :: Sl eRun a' c' s.larges :: Shs (M1 ++ M2) :: F) (fun j => s.parts.length - j) 0 (Nat.zero_le _) ?_ ?_ ?_
    · rw [List.take_zero, show totI [] = 0 from rfl, Int.add_zero]; (repeat (first | exact Env.sub_nil _ | refine Env.sub_cons rfl ?_))
    · ((try simp only [List.cons_append, List.nil_append]); repeat (first | exact ent_refl | refine ent_take (by repeat (first | exact Find.here | apply Find.there)) ?_ | refine ent_drop ?_))
    intro j hj
    dsimp only at hj ⊢
    repeat (first | refine Zq ?_ | refine Zs ?_ | refine ZT ?_ | refine ZF ?_ | refine Zc ?_ | refine XO_gU (hk := ?_))
    refine X_cond rfl (fun hc => ?_) (fun hc => ?_) <;> simp only [decide_eq_true_eq, decide_eq_false_iff_not] at hc
    · have hjl : j < s.parts.length := by omega
      have hts : totI ((s.parts.map runP).take (j + 1)) = totI ((s.parts.map runP).take j) + s.parts[j].2.1 := by
        rw [List.take_succ_eq_append_getElem (by simp; omega), tot_append]; simp [totI, runP]
      have hb1 := tot_bd (l := (s.parts.map runP).take j) (fun q hq => run_bd hsB q (List.mem_of_mem_take hq))
      have hb2 : ((s.parts.map runP).take j).length ≤ 1048576 := by simp; omega
      have hb3 := hsB.ok.parts s.parts[j] (List.getElem_mem hjl)
      refine X_slopen (E' := ePart) (a := a) (c := c) (xs := s.parts) (by (repeat (first | exact Find.here | apply Find.there))) (by omega) ?_
      rintro qb o rfl
      repeat (first | refine Zq ?_ | refine Zs ?_ | refine ZT ?_ | refine ZF ?_ | refine Zc ?_ | refine XO_gU (hk := ?_))
      refine XO_rv (rv_elG (E' := ePart) (i := j) (x' := s.parts[j]) (hget := by simp [hjl])) (hk := ?_)
      repeat (first | refine Zq ?_ | refine Zs ?_ | refine ZT ?_ | refine ZF ?_ | refine Zc ?_ | refine XO_gU (hk := ?_))
      (refine XO_dv dv_alloc (hk := ?_); rintro _ _ ⟨cb, rfl, rfl⟩; (repeat (first | refine Zq ?_ | refine Zs ?_ | refine ZT ?_ | refine ZF ?_ | refine Zc ?_ | refine XO_gU (hk := ?_))); refine XO_dv0 dv_storeW (hk := ?_); rintro _ _ rfl; (repeat (first | refine Zq ?_ | refine Zs ?_ | refine ZT ?_ | refine ZF ?_ | refine Zc ?_ | refine XO_gU (hk := ?_))))
      refine X_round (j + 1) (by show j + 1 ≤ _; omega) (by show s.parts.length - (j + 1) < s.parts.length - j; omega) (by rw [hts, ← Int.add_assoc]; (repeat (first | exact Env.sub_nil _ | refine Env.sub_cons rfl ?_))) (by ((try simp only [List.cons_append, List.nil_append]); repeat (first | exact ent_refl | refine ent_take (by repeat (first | exact Find.here | apply Find.there)) ?_ | refine ent_drop ?_)))
    · obtain rfl : j = s.parts.length := by omega
      rw [List.take_of_length_le (l := s.parts.map runP) (by simp)]
      have hb1 := tot_bd (l := s.parts.map runP) (run_bd hsB)
      have hb2 : (s.parts.map runP).length ≤ 1048576 := by simp; omega
      repeat (first | refine Zq ?_ | refine Zs ?_ | refine ZT ?_ | refine ZF ?_ | refine Zc ?_ | refine XO_gU (hk := ?_))
      refine X_loop (ι := Nat) (fun j => j ≤ s.larges.length) (fun j => [(0, .pointer (some ⟨l, 0, none⟩)), (2, .pointer (some ⟨gb, 0, none⟩)), (3, .pointer (some ⟨m, 0, none⟩)), (44, .pointer (some ⟨r, 0, none⟩)), (6, .pointer (some ⟨b, 0, none⟩)), (100, .slice a' s.larges.length c'), (101, .int .i64 (s.larges.length : Int)), (102, .int .i64 (j : Int)), (4, .int .i64 (sumF shPages (rgs D) + totI (s.parts.map runP) + totI (s.larges.take j)))])
        (fun _ => Core l mb C :: MpI idE ptV mb r (blk (M1 ++ (id, b, s) :: M2)) (blk T1 ++ blk T2) :: pt m (.cells [.int .i64 (C.P - totI C.fr), .int .i64 (kpages C.ks 7), .int .i64 (totI C.fr), .int .i64 (C.fr.length : Int), .int .u64 (IntKind.u64.wrap (sumF Sh.obj (rgs D) + s.obj)), .int .u64 (IntKind.u64.wrap (sumF Sh.pad (rgs D) + s.pad)), .int .u64 (IntKind.u64.wrap (sumF shHdr (rgs D) + shHdr s)), .int .u64 0].toArray 51 (0, 0)) :: pt gb (.cells [.int .i64 0, .int .i64 0, .int .i64 0, .int .i64 0, .int .u64 0, .int .u64 0, .int .u64 0, .int .u64 0].toArray 51 (0, 0)) :: pt b (.cells [.slice a s.parts.length c, .slice a' s.larges.length c', .int .u64 s.obj, .int .u64 s.pad].toArray 121 (0, 0)) :: Sl ePart a c s.parts :: Sl eRun a' c' s.larges :: Shs (M1 ++ M2) :: F) (fun j => s.larges.length - j) 0 (Nat.zero_le _) ?_ ?_ ?_
      · rw [List.take_zero, show totI [] = 0 from rfl, Int.add_zero]; (repeat (first | exact Env.sub_nil _ | refine Env.sub_cons rfl ?_))
      · ((try simp only [List.cons_append, List.nil_append]); repeat (first | exact ent_refl | refine ent_take (by repeat (first | exact Find.here | apply Find.there)) ?_ | refine ent_drop ?_))
      intro j hj
      dsimp only at hj ⊢
      repeat (first | refine Zq ?_ | refine Zs ?_ | refine ZT ?_ | refine ZF ?_ | refine Zc ?_ | refine XO_gU (hk := ?_))
      refine X_cond rfl (fun hc => ?_) (fun hc => ?_) <;> simp only [decide_eq_true_eq, decide_eq_false_iff_not] at hc
      · have hjl : j < s.larges.length := by omega
        have hts : totI (s.larges.take (j + 1)) = totI (s.larges.take j) + s.larges[j].2 := by
          rw [List.take_succ_eq_append_getElem hjl, tot_append]; simp [totI]
        have hb4 := tot_bd (l := s.larges.take j) (fun q hq => (hsB.ok.larges q (List.mem_of_mem_take hq)).2.2)
        have hb5 : (s.larges.take j).length ≤ 1048576 := by simp; omega
        have hb3 := hsB.ok.larges s.larges[j] (List.getElem_mem hjl)
        refine X_slopen (E' := eRun) (a := a') (c := c') (xs := s.larges) (by (repeat (first | exact Find.here | apply Find.there))) (by omega) ?_
        rintro qb o rfl
        repeat (first | refine Zq ?_ | refine Zs ?_ | refine ZT ?_ | refine ZF ?_ | refine Zc ?_ | refine XO_gU (hk := ?_))
        refine XO_rv (rv_elG (E' := eRun) (i := j) (x' := s.larges[j]) (hget := by simp [hjl])) (hk := ?_)
        repeat (first | refine Zq ?_ | refine Zs ?_ | refine ZT ?_ | refine ZF ?_ | refine Zc ?_ | refine XO_gU (hk := ?_))
        (refine XO_dv dv_alloc (hk := ?_); rintro _ _ ⟨cb, rfl, rfl⟩; (repeat (first | refine Zq ?_ | refine Zs ?_ | refine ZT ?_ | refine ZF ?_ | refine Zc ?_ | refine XO_gU (hk := ?_))); refine XO_dv0 dv_storeW (hk := ?_); rintro _ _ rfl; (repeat (first | refine Zq ?_ | refine Zs ?_ | refine ZT ?_ | refine ZF ?_ | refine Zc ?_ | refine XO_gU (hk := ?_))))
        refine X_round (j + 1) (by show j + 1 ≤ _; omega) (by show s.larges.length - (j + 1) < s.larges.length - j; omega) (by rw [hts, ← Int.add_assoc]; (repeat (first | exact Env.sub_nil _ | refine Env.sub_cons rfl ?_))) (by ((try simp only [List.cons_append, List.nil_append]); repeat (first | exact ent_refl | refine ent_take (by repeat (first | exact Find.here | apply Find.there)) ?_ | refine ent_drop ?_)))
      · obtain rfl : j = s.larges.length := by omega
        rw [List.take_length]
        have e0 : rgs (D ++ [(id, b, s)]) = rgs D ++ [(id, s)] := by simp [rgs]
        have e1 : sumF Sh.obj (rgs (D ++ [(id, b, s)])) = sumF Sh.obj (rgs D) + s.obj := by rw [e0, sumF_append]; simp [sumF]
        have e2 : sumF Sh.pad (rgs (D ++ [(id, b, s)])) = sumF Sh.pad (rgs D) + s.pad := by rw [e0, sumF_append]; simp [sumF]
        have e3 : sumF shHdr (rgs (D ++ [(id, b, s)])) = sumF shHdr (rgs D) + shHdr s := by rw [e0, sumF_append]; simp [sumF]
        have e4 : sumF shPages (rgs (D ++ [(id, b, s)])) = sumF shPages (rgs D) + totI (s.parts.map runP) + totI s.larges := by rw [e0, sumF_append]; simp [sumF, shPages]; omega
        have e5 : blk (T1 ++ T2) = blk T1 ++ blk T2 := by simp [blk]
        repeat (first | refine Zq ?_ | refine Zs ?_ | refine ZT ?_ | refine ZF ?_ | refine Zc ?_ | refine XO_gU (hk := ?_))
        refine X_round (D ++ [(id, b, s)], T1 ++ T2) ?_ (by show (T1 ++ T2).length < (T1 ++ (id, b, s) :: T2).length; simp) (by rw [e4]; (repeat (first | exact Env.sub_nil _ | refine Env.sub_cons rfl ?_))) ?_
        · show (D ++ [(id, b, s)] ++ (T1 ++ T2)).Perm _
          refine List.Perm.trans ?_ hperm
          rw [List.append_assoc]
          exact List.Perm.append_left D (by simpa using List.perm_middle.symm)
        · dsimp only
          rw [e1, e2, e3, e5]
          refine fun H h => ?_
          have h2 := ent_fold (by repeat (first | exact FindAll.nil | exact Find.here | apply Find.there | apply FindAll.cons)) (Shd.fold (b := b) (s := s) (a := a) (c := c) (a' := a') (c' := c')) ent_refl H h
          have h3 := ent_fold (by repeat (first | exact FindAll.nil | exact Find.here | apply Find.there | apply FindAll.cons)) (Shs.back (id := id) (M1 := M1) (M2 := M2)) ent_refl H h2
          exact (show ∀ H, SL _ H → SL _ H from by ((try simp only [List.cons_append, List.nil_append]); repeat (first | exact ent_refl | refine ent_take (by repeat (first | exact Find.here | apply Find.there)) ?_ | refine ent_drop ?_))) H h3
end Go.Proofs.YtamecmklcnohjaaGreat.Sep
