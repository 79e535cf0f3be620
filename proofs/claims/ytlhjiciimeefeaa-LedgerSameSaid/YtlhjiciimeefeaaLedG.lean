import Derived.Test.YtlhjiciimeefeaaLedF
namespace Go.Proofs.Ytlhjiciimeefeaa.Sep
open Go.RowKit
set_option linter.unusedSimpArgs false
set_option linter.unusedVariables false
attribute [local irreducible] Core Shd Shs

theorem Lg.back {l mb b : Nat} {C' : Co} {rg : List (Int × Sh)} {id : Int} {s : Sh} (s' : Sh) {M1 M2 : List (Int × Nat × Sh)} (hM : rgs (M1 ++ (id, b, s) :: M2) = rg) (hn : lk M1 id = none) : ∀ H, SL [Core l mb C', Mp idE ptV mb (blk (M1 ++ (id, b, s) :: M2)), Shd b s', Shs (M1 ++ M2)] H → Lg l C' (ins rg id s') H := by
  intro H h
  have h1 : ins rg id s' = rgs (M1 ++ (id, b, s') :: M2) := by
    rw [← hM]
    have : rgs (M1 ++ (id, b, s) :: M2) = rgs M1 ++ (id, s) :: rgs M2 := by simp [rgs]
    rw [this, ins_split (by rw [lk_rgs, hn]; rfl)]
    simp [rgs]
  rw [h1]
  refine Lg.fold (mb := mb) (M := M1 ++ (id, b, s') :: M2) rfl H ?_
  have h2 : blk (M1 ++ (id, b, s') :: M2) = blk (M1 ++ (id, b, s) :: M2) := by simp [blk]
  rw [h2]
  obtain ⟨H1, H2, d, u, hA, H3, H4, d', u', hB, hC⟩ := h
  refine ⟨H1, H2, d, u, hA, H3, H4, d', u', hB, ?_⟩
  exact ⟨H4, fun _ => none, fun _ => .inr rfl, fun _ => by simp, Shs.back H4 hC, trivial⟩
attribute [local irreducible] Lg
structure ShOk (s : Sh) : Prop where
  parts : ∀ p ∈ s.parts, 0 ≤ p.1 ∧ p.1 ≤ 1048576 ∧ 0 ≤ p.2.1 ∧ p.2.1 ≤ 1048576 ∧ 0 ≤ p.2.2.1 ∧ p.2.2.1 ≤ 18446744073709551615 ∧ 0 ≤ p.2.2.2 ∧ p.2.2.2 ≤ 18446744073709551615
  larges : ∀ r ∈ s.larges, 0 ≤ r.1 ∧ r.1 ≤ 1048576 ∧ 0 ≤ r.2 ∧ r.2 ≤ 1048576
  obj : 0 ≤ s.obj ∧ s.obj ≤ 18446744073709551615
  pad : 0 ≤ s.pad ∧ s.pad ≤ 18446744073709551615
theorem last_mem {l : List Part} (h : l ≠ []) : lastP l ∈ l := by
  have hp : 0 < l.length := List.length_pos_iff.2 h
  have hl : l.length - 1 < l.length := by omega
  have : lastP l = l[l.length - 1] := by unfold lastP; simp only [List.getD, List.getElem?_eq_getElem hl, Option.getD_some]
  rw [this]; exact List.getElem_mem hl
theorem top_bd {s : Sh} (h : ShOk s) : 0 ≤ topAt s ∧ topAt s ≤ 18446744073709551615 ∧ 0 ≤ topEnd s ∧ topEnd s ≤ 18446744073709551615 := by
  unfold topAt topEnd
  by_cases h0 : s.parts = []
  · rw [h0]; simp [lastP]
  · have := h.parts _ (last_mem h0); omega
theorem setTop_self (s : Sh) : setTop s (topAt s) s.obj s.pad = s := by
  unfold setTop topAt
  rw [setLast_self]
theorem ofI_bd (p n : Int) : 0 ≤ (ofI p n).1 ∧ (ofI p n).1 ≤ 18446744073709551615 ∧ 0 ≤ (ofI p n).2 ∧ (ofI p n).2 ≤ 18446744073709551615 := by
  unfold ofI
  split
  · rename_i h; refine ⟨?_, ?_, ?_, ?_⟩ <;> dsimp only <;> omega
  · exact ⟨by decide, by decide, by decide, by decide⟩
def uw (x : Int) : Int := IntKind.u64.wrap x
theorem uw_bd (x : Int) : 0 ≤ uw x ∧ uw x ≤ 18446744073709551615 := by
  unfold uw; rw [wrap_u64_eq]; omega
def madeS (s : Sh) (size align : Int) : Option Sh := (fitI (topAt s) (topEnd s) size align).map fun q => setTop s q.2.1 (IntKind.u64.wrap (s.obj + size)) (IntKind.u64.wrap (s.pad + q.2.2))
def bigS (s : Sh) (r : Int × Int) (size : Int) : Option (Int × Int × Int) → Sh
  | none => ⟨s.parts, s.larges ++ [r], s.obj, s.pad⟩
  | some q => ⟨s.parts, s.larges ++ [r], IntKind.u64.wrap (s.obj + size), IntKind.u64.wrap (s.pad + q.2.2)⟩
def partS (s : Sh) (r cur : Int × Int) : Sh := ⟨s.parts ++ [(r.1, r.2, cur.1, cur.2)], s.larges, s.obj, s.pad⟩
def growS (C : Co) (s : Sh) (size align : Int) (n : Int) (big : Bool) : (Co × Sh) × Int :=
  if (getC C n).2.2 = 0 then
    (if big = true then (((getC C n).1, bigS s ((getC C n).2.1, n) size (fitI (ofI (getC C n).2.1 n).1 (ofI (getC C n).2.1 n).2 size align)), 0)
      else (((getC C n).1, (madeS (partS s ((getC C n).2.1, n) (ofI (getC C n).2.1 n)) size align).getD (partS s ((getC C n).2.1, n) (ofI (getC C n).2.1 n))), 0))
  else (((getC C n).1, s), (getC C n).2.2)
def allocS (C : Co) (s : Sh) (size align : Int) : (Co × Sh) × Int :=
  if size = 0 ∨ (needI 1 align).isSome = false then ((C, s), 1) else match madeS s size align with
  | some s' => ((C, s'), 0)
  | none => if (chunkI size align).2.2 = false then ((C, s), 4) else growS C s size align (chunkI size align).1 (chunkI size align).2.1
def allocV (l : Nat) (C : Co) (rg : List (Int × Sh)) (id size align : Int) : Option Sh → Value → List HP → Prop
  | none => fun v L => v = .int .i64 2 ∧ L = [Lg l C rg]
  | some s => fun v L => v = .int .i64 (allocS C s size align).2 ∧ L = [Lg l (allocS C s size align).1.1 (ins rg id (allocS C s size align).1.2)]
theorem lastP_append (l : List Part) (x : Part) : lastP (l ++ [x]) = x := by simp [lastP, List.getD]
theorem allocV_eq {l : Nat} {C : Co} {rg : List (Int × Sh)} {id size align : Int} {s : Sh} {R : (Co × Sh) × Int} (h : allocS C s size align = R) : allocV l C rg id size align (some s) = fun v L => v = .int .i64 R.2 ∧ L = [Lg l R.1.1 (ins rg id R.1.2)] := by subst h; rfl
set_option maxHeartbeats 8000000
attribute [local irreducible] X XE XO XD XDi XDa PV RV DV pt base Spec Sl Mp Keeps Pg Kc

theorem alloc_spec (l : Nat) (C : Co) (rg : List (Int × Sh)) (id size align : Int) (hC : CoOk C) (hS : ∀ q ∈ rg, ShOk q.2 ∧ q.2.parts.length ≤ 1048576 ∧ q.2.larges.length ≤ 1048576) (h0 : 0 ≤ size) (h1 : size ≤ 18446744073709551615) (h2 : 0 ≤ align) (h3 : align ≤ 18446744073709551615) :
    Spec Try.prog 9 [.pointer (some ⟨l, 0, none⟩), .int .u64 id, .int .u64 size, .int .u64 align] [Lg l C rg] (allocV l C rg id size align (lk rg id)) := by
  refine Spec.intro (IsEnt.out) Try.func9 rfl Try.ntmps9 (by simp) (fun w0 F => ?_)
  simp only [envOf, List.zipIdx, List.map, List.cons_append, List.nil_append, Nat.zero_add, Nat.reduceAdd]
  refine X_open .here Lg.open ?_
  rintro ⟨mb, M⟩ hM
  dsimp only [List.cons_append, List.nil_append] at hM ⊢
  repeat (first | refine Zp pv_move ?_ | refine Zp pv_assign ?_ | refine X_seq ?_ | refine X_region ?_ | refine XO_nil ?_ | refine XE_code ?_)
  refine XO_call (of_spec l mb C (blk M) id) (hk := ?_)
  rintro _ _ ⟨rfl, rfl⟩
  rw [lk_blk]
  repeat (first | refine Zp pv_move ?_ | refine Zp pv_assign ?_ | refine X_seq ?_ | refine X_region ?_ | refine XO_nil ?_ | refine XE_code ?_)
  refine XO_call (need_spec 1 align (by decide) (by decide) h2 h3) (hk := ?_)
  rintro _ _ ⟨rfl, rfl⟩
  cases hk : lk M id with
  | none =>
    have hrg : lk rg id = none := by rw [← hM, lk_rgs, hk]; rfl
    rw [hrg]
    simp only [Option.map_none, Option.getD_none, ptV]
    repeat (first | refine Zp pv_move ?_ | refine Zp pv_assign ?_ | refine Zp pv_extract ?_ | refine Zp pv_eqnil ?_ | refine X_seq ?_ | refine X_region ?_ | refine X_block ?_ | refine XO_nil ?_ | refine XE_code ?_)
    refine X_cond rfl (fun _ => ?_) (fun h => by cases h)
    repeat (first | refine Zp pv_assign ?_ | refine X_seq ?_ | refine X_region ?_ | refine X_ret ?_ | refine XO_nil ?_ | refine XE_code ?_ | refine XE_code_ret ?_ | refine XE_block_ret ?_)
    refine XE_fold (by repeat (first | exact FindAll.nil | exact Find.here | apply Find.there | apply FindAll.cons)) (Lg.fold hM) ?_
    refine XE_ret (.inl rfl) (tells_tmps rfl rfl) ⟨_, ⟨rfl, rfl⟩, by ((try simp only [List.cons_append, List.nil_append]); repeat (first | exact ent_refl | refine ent_take (by repeat (first | exact Find.here | apply Find.there)) ?_ | refine ent_drop ?_))⟩
  | some q =>
    obtain ⟨b, s⟩ := q
    have hrg : lk rg id = some s := by rw [← hM, lk_rgs, hk]; rfl
    rw [hrg]
    obtain ⟨M1, M2, rfl, hn1⟩ := lk_split hk
    obtain ⟨hs1, hs2, hs3⟩ := hS (id, s) (by rw [← hM]; simp [rgs])
    dsimp only at hs1 hs2 hs3
    have htb := top_bd hs1
    simp only [Option.map_some, Option.getD_some, ptV]
    repeat (first | refine Zp pv_move ?_ | refine Zp pv_assign ?_ | refine Zp pv_extract ?_ | refine Zp pv_eqnil ?_ | refine X_seq ?_ | refine X_region ?_ | refine X_block ?_ | refine XO_nil ?_ | refine XE_code ?_)
    refine X_cond rfl (fun h => by cases h) (fun _ => ?_)
    by_cases hbad : size = 0 ∨ (needI 1 align).isSome = false
    · have hA : allocS C s size align = ((C, s), 1) := by unfold allocS; rw [if_pos hbad]
      rw [allocV_eq hA]
      refine X_open (A := Shs (M1 ++ (id, b, s) :: M2)) (by (repeat (first | exact Find.here | apply Find.there))) Shs.out ?_
      rintro ⟨⟩ -
      dsimp only [List.cons_append, List.nil_append]
      repeat (first | refine Zp pv_move ?_ | refine Zp pv_cmp ?_ | refine X_seq ?_ | refine X_region ?_)
      refine XO_either (hT := fun h => ?_) (hF := fun h => ?_)
      · repeat (first | refine ZF ?_ | refine Zp pv_assign ?_ | refine Zp pv_pickT ?_ | refine XO_nil ?_ | refine XE_code ?_)
        refine X_cond rfl (fun _ => ?_) (fun h => by cases h)
        repeat (first | refine Zp pv_assign ?_ | refine X_seq ?_ | refine X_region ?_ | refine X_ret ?_ | refine XO_nil ?_ | refine XE_code ?_ | refine XE_code_ret ?_ | refine XE_block_ret ?_)
        refine XE_fold (by repeat (first | exact FindAll.nil | exact Find.here | apply Find.there | apply FindAll.cons)) (Lg.back s hM hn1) ?_
        refine XE_ret (.inl rfl) (tells_tmps rfl rfl) ⟨_, ⟨rfl, rfl⟩, by ((try simp only [List.cons_append, List.nil_append]); repeat (first | exact ent_refl | refine ent_take (by repeat (first | exact Find.here | apply Find.there)) ?_ | refine ent_drop ?_))⟩
      · have hsm : (needI 1 align).isSome = false := by
          rcases hbad with h' | h'
          · exact absurd h' (by simpa using h)
          · exact h'
        rw [hsm]
        repeat (first | refine ZT ?_ | refine Zp pv_move ?_ | refine Zp pv_assign ?_ | refine Zp pv_not ?_ | refine Zp pv_pickF ?_ | refine XO_nil ?_ | refine XE_code ?_)
        refine X_cond rfl (fun _ => ?_) (fun h => by cases h)
        repeat (first | refine Zp pv_assign ?_ | refine X_seq ?_ | refine X_region ?_ | refine X_ret ?_ | refine XO_nil ?_ | refine XE_code ?_ | refine XE_code_ret ?_ | refine XE_block_ret ?_)
        refine XE_fold (by repeat (first | exact FindAll.nil | exact Find.here | apply Find.there | apply FindAll.cons)) (Lg.back s hM hn1) ?_
        refine XE_ret (.inl rfl) (tells_tmps rfl rfl) ⟨_, ⟨rfl, rfl⟩, by ((try simp only [List.cons_append, List.nil_append]); repeat (first | exact ent_refl | refine ent_take (by repeat (first | exact Find.here | apply Find.there)) ?_ | refine ent_drop ?_))⟩
    have hbad' := hbad
    rw [not_or] at hbad
    obtain ⟨hsz, hsm⟩ := hbad
    have hsm : (needI 1 align).isSome = true := by revert hsm; cases (needI 1 align).isSome <;> simp
    rw [hsm]
    repeat (first | refine Zp pv_move ?_ | refine Zp pv_cmp ?_ | refine X_seq ?_ | refine X_region ?_)
    refine XO_known false (hb := by simpa using hsz) (hk := ?_)
    repeat (first | refine ZT ?_ | refine Zp pv_move ?_ | refine Zp pv_assign ?_ | refine Zp pv_not ?_ | refine Zp pv_pickF ?_ | refine XO_nil ?_ | refine XE_code ?_)
    refine X_cond rfl (fun h => by cases h) (fun _ => ?_)
    refine X_open (A := Shs (M1 ++ (id, b, s) :: M2)) (by (repeat (first | exact Find.here | apply Find.there))) Shs.out ?_
    rintro ⟨⟩ -
    dsimp only [List.cons_append, List.nil_append]
    repeat (first | refine Zp pv_move ?_ | refine X_seq ?_ | refine X_region ?_)
    refine XO_call (top_spec b s (by omega)) (hk := ?_)
    rintro _ _ ⟨cb, o, A, G, a, a', c, c', rfl, hCur, hfold, rfl⟩
    repeat (first | refine Zp pv_move ?_)
    refine XO_call (made_spec b cb o (topEnd s) A hCur a a' s.parts.length s.larges.length c c' s.obj s.pad (topAt s) size align htb.1 htb.2.1 htb.2.2.1 htb.2.2.2 h0 h1 h2 h3) (hk := ?_)
    intro v L' hpost
    cases hf : fitI (topAt s) (topEnd s) size align with
    | some q =>
      rw [hf] at hpost
      obtain ⟨rfl, rfl⟩ := hpost
      have hA : allocS C s size align = ((C, setTop s q.2.1 (IntKind.u64.wrap (s.obj + size)) (IntKind.u64.wrap (s.pad + q.2.2))), 0) := by
        unfold allocS madeS; rw [if_neg hbad', hf]; rfl
      rw [allocV_eq hA]
      refine XO_fold (by repeat (first | exact FindAll.nil | exact Find.here | apply Find.there | apply FindAll.cons)) (hfold q.2.1 _ _) ?_
      repeat (first | refine Zp pv_assign ?_ | refine XO_nil ?_ | refine XE_code ?_)
      refine X_cond rfl (fun _ => ?_) (fun h => by cases h)
      repeat (first | refine Zp pv_assign ?_ | refine X_seq ?_ | refine X_region ?_ | refine X_ret ?_ | refine XO_nil ?_ | refine XE_code ?_ | refine XE_code_ret ?_ | refine XE_block_ret ?_)
      refine XE_fold (by repeat (first | exact FindAll.nil | exact Find.here | apply Find.there | apply FindAll.cons)) (Lg.back _ hM hn1) ?_
      refine XE_ret (.inl rfl) (tells_tmps rfl rfl) ⟨_, ⟨rfl, rfl⟩, by ((try simp only [List.cons_append, List.nil_append]); repeat (first | exact ent_refl | refine ent_take (by repeat (first | exact Find.here | apply Find.there)) ?_ | refine ent_drop ?_))⟩
    | none =>
      rw [hf] at hpost
      obtain ⟨rfl, rfl⟩ := hpost
      have hmS : madeS s size align = none := by unfold madeS; rw [hf]; rfl
      refine XO_fold (by repeat (first | exact FindAll.nil | exact Find.here | apply Find.there | apply FindAll.cons)) (hfold (topAt s) s.obj s.pad) ?_
      rw [setTop_self]
      clear hCur hfold
      repeat (first | refine Zp pv_assign ?_ | refine XO_nil ?_ | refine XE_code ?_)
      refine X_cond rfl (fun h => by cases h) (fun _ => ?_)
      repeat (first | refine Zp pv_move ?_ | refine X_seq ?_ | refine X_region ?_ | refine X_skip ?_ | refine XE_code ?_ | refine XE_block ?_)
      refine XO_call (chunk_spec size align h0 h1 h2 h3) (hk := ?_)
      rintro _ _ ⟨rfl, rfl⟩
      have hA0 : allocS C s size align = if (chunkI size align).2.2 = false then ((C, s), 4) else growS C s size align (chunkI size align).1 (chunkI size align).2.1 := by
        conv => lhs; unfold allocS; rw [if_neg hbad', hmS]
      rw [allocV_eq hA0]
      clear hA0
      obtain ⟨n, big, ok⟩ := chunkI size align
      dsimp only
      cases ok with
      | false =>
        rw [if_pos rfl]
        repeat (first | refine Zp pv_move ?_ | refine Zp pv_assign ?_ | refine Zp pv_extract ?_ | refine Zp pv_not ?_ | refine X_seq ?_ | refine X_region ?_ | refine XO_nil ?_ | refine XE_code ?_)
        refine X_cond rfl (fun _ => ?_) (fun h => by cases h)
        repeat (first | refine Zp pv_assign ?_ | refine X_seq ?_ | refine X_region ?_ | refine X_ret ?_ | refine XO_nil ?_ | refine XE_code ?_ | refine XE_code_ret ?_)
        refine XE_fold (by repeat (first | exact FindAll.nil | exact Find.here | apply Find.there | apply FindAll.cons)) (Lg.back s hM hn1) ?_
        refine XE_ret (.inl rfl) (tells_tmps rfl rfl) ⟨_, ⟨rfl, rfl⟩, by ((try simp only [List.cons_append, List.nil_append]); repeat (first | exact ent_refl | refine ent_take (by repeat (first | exact Find.here | apply Find.there)) ?_ | refine ent_drop ?_))⟩
      | true =>
        rw [if_neg (by decide)]
        unfold growS
        repeat (first | refine Zp pv_move ?_ | refine Zp pv_assign ?_ | refine Zp pv_extract ?_ | refine Zp pv_not ?_ | refine X_seq ?_ | refine X_region ?_ | refine XO_nil ?_ | refine XE_code ?_)
        refine X_cond rfl (fun h => by cases h) (fun _ => ?_)
        repeat (first | refine Zp pv_move ?_ | refine X_seq ?_ | refine X_region ?_ | refine X_skip ?_ | refine XE_code ?_)
        refine XO_call (get_spec l mb C n hC) (hk := ?_)
        rintro _ _ ⟨rfl, rfl⟩
        repeat (first | refine Zp pv_move ?_ | refine Zp pv_extract ?_)
        refine XO_dv dv_alloc (hk := ?_)
        rintro _ _ ⟨b15, rfl, rfl⟩
        repeat (fail)
        refine XO_dv0 dv_storeW (hk := ?_)
        rintro _ _ rfl
        by_cases he : (getC C n).2.2 = 0
        · rw [if_pos he, he]
          repeat (first | refine Zp pv_move ?_ | refine Zp pv_assign ?_ | refine Zp pv_cmp ?_ | refine X_seq ?_ | refine X_region ?_ | refine XO_nil ?_ | refine XE_code ?_)
          refine X_cond rfl (fun h => by cases h) (fun _ => ?_)
          repeat (first | refine Zp pv_field ?_ | refine Zr rv_load ?_ | refine X_seq ?_ | refine X_region ?_ | refine X_skip ?_ | refine XE_code ?_)
          refine XO_call (bof_spec (getC C n).2.1 n) (hk := ?_)
          rintro _ _ ⟨rfl, rfl⟩
          have hob := ofI_bd (getC C n).2.1 n
          repeat (fail)
          refine XO_dv dv_alloc (hk := ?_)
          rintro _ _ ⟨b17, rfl, rfl⟩
          repeat (fail)
          refine XO_dv0 dv_storeW (hk := ?_)
          rintro _ _ rfl
          repeat (first | refine Zp pv_move ?_ | refine X_seq ?_ | refine X_region ?_ | refine XO_nil ?_ | refine XE_code ?_)
          generalize (getC C n).2.1 = pg at hob ⊢
          generalize (getC C n).1 = C'
          cases big with
          | true =>
            rw [if_pos rfl]
            refine X_cond rfl (fun _ => ?_) (fun h => by cases h)
            refine X_open (A := Shd b s) (by (repeat (first | exact Find.here | apply Find.there))) Shd.open ?_
            rintro ⟨a, c, a', c'⟩ -
            dsimp only [List.cons_append, List.nil_append]
            repeat (first | refine X_seq ?_)
            repeat (first | refine Dp pv_move ?_ | refine Dp pv_nil_ptr ?_ | refine Dp pv_field ?_ | refine Dr rv_load ?_ | refine Dr rv_loadW ?_ | refine XD_pick (h := ?_) | refine X_draws (h := ?_))
            refine XD_one (h := ?_)
            refine XDa_dvA (dv_lit (E' := eRun) [(pg, n)]) (hk := ?_)
            rintro _ _ ⟨lb, rfl, rfl⟩
            refine ⟨by (repeat (first | exact keeps_nil | exact keeps_fnil | refine keeps_skip (h := ?_) | refine keeps_takeA (hv := by first | exact rv_load | exact rv_loadW | exact rv_loadS) (h := ?_))), ?_⟩
            repeat (fail)
            refine XD_one (h := ?_)
            refine XDa_dvA (dv_append (E' := eRun) (xs := s.larges) (ys := [(pg, n)]) (A := Sl eRun (some ⟨lb, 0, none⟩) 1 [(pg, n)]) (a := a') (a2 := some ⟨lb, 0, none⟩) (c := c') (c2 := 1) (hv := Sl.view) (hb := by simp; omega)) (hk := ?_)
            rintro _ _ ⟨a3, c3, rfl, rfl⟩
            refine ⟨by (repeat (first | exact keeps_nil | exact keeps_fnil | refine keeps_skip (h := ?_) | refine keeps_takeA (hv := by first | exact rv_load | exact rv_loadW | exact rv_loadS) (h := ?_))), ?_⟩
            repeat (first | refine Dp pv_nil_ptr ?_ | refine Dp pv_field ?_ | refine XD_pick (h := ?_))
            refine XD_one (h := ?_)
            refine XDa_dvk0 dv_store (K := _) (hk := ?_)
            rintro _ _ rfl
            refine ⟨by (repeat (first | exact keeps_nil | exact keeps_fnil | refine keeps_skip (h := ?_) | refine keeps_takeA (hv := by first | exact rv_load | exact rv_loadW | exact rv_loadS) (h := ?_))), ?_⟩
            (refine XD_end (h := ?_); repeat (first | refine Zp pv_move ?_ | refine X_seq ?_ | refine X_region ?_ | refine XE_code ?_))
            refine XO_call (made_spec b b17 0 (ofI pg n).2 (fun x => pt b17 (.cells [.int .u64 x, .int .u64 (ofI pg n).2].toArray 71 (0, 0))) (Cur.cell b17 _) a a3 s.parts.length (s.larges ++ [(pg, n)]).length c c3 s.obj s.pad (ofI pg n).1 size align hob.1 hob.2.1 hob.2.2.1 hob.2.2.2 h0 h1 h2 h3) (hk := ?_)
            intro v L' hpost
            cases hf2 : fitI (ofI pg n).1 (ofI pg n).2 size align with
            | none =>
              rw [hf2] at hpost
              obtain ⟨rfl, rfl⟩ := hpost
              repeat (first | refine Zp pv_assign ?_ | refine X_seq ?_ | refine X_region ?_ | refine X_ret ?_ | refine XO_nil ?_ | refine XE_code ?_ | refine XE_code_ret ?_)
              refine XE_fold (by repeat (first | exact FindAll.nil | exact Find.here | apply Find.there | apply FindAll.cons)) (Shd.fold (s := ⟨s.parts, s.larges ++ [(pg, n)], s.obj, s.pad⟩)) ?_
              refine XE_fold (by repeat (first | exact FindAll.nil | exact Find.here | apply Find.there | apply FindAll.cons)) (Lg.back _ hM hn1) ?_
              refine XE_ret (.inl rfl) (tells_tmps rfl rfl) ⟨_, ⟨rfl, rfl⟩, by ((try simp only [List.cons_append, List.nil_append]); repeat (first | exact ent_refl | refine ent_take (by repeat (first | exact Find.here | apply Find.there)) ?_ | refine ent_drop ?_))⟩
            | some q =>
              rw [hf2] at hpost
              obtain ⟨rfl, rfl⟩ := hpost
              repeat (first | refine Zp pv_assign ?_ | refine X_seq ?_ | refine X_region ?_ | refine X_ret ?_ | refine XO_nil ?_ | refine XE_code ?_ | refine XE_code_ret ?_)
              refine XE_fold (by repeat (first | exact FindAll.nil | exact Find.here | apply Find.there | apply FindAll.cons)) (Shd.fold (s := ⟨s.parts, s.larges ++ [(pg, n)], IntKind.u64.wrap (s.obj + size), IntKind.u64.wrap (s.pad + q.2.2)⟩)) ?_
              refine XE_fold (by repeat (first | exact FindAll.nil | exact Find.here | apply Find.there | apply FindAll.cons)) (Lg.back _ hM hn1) ?_
              refine XE_ret (.inl rfl) (tells_tmps rfl rfl) ⟨_, ⟨rfl, rfl⟩, by ((try simp only [List.cons_append, List.nil_append]); repeat (first | exact ent_refl | refine ent_take (by repeat (first | exact Find.here | apply Find.there)) ?_ | refine ent_drop ?_))⟩
          | false =>
            rw [if_neg (by decide)]
            refine X_cond rfl (fun h => by cases h) (fun _ => ?_)
            refine X_open (A := Shd b s) (by (repeat (first | exact Find.here | apply Find.there))) Shd.open ?_
            rintro ⟨a, c, a', c'⟩ -
            dsimp only [List.cons_append, List.nil_append]
            repeat (first | refine X_seq ?_ | refine X_skip ?_ | refine XE_code ?_)
            repeat (first | refine Dp pv_move ?_ | refine Dp pv_nil_ptr ?_ | refine Dp pv_field ?_ | refine Dr rv_load ?_ | refine Dr rv_loadW ?_ | refine XD_pick (h := ?_) | refine X_draws (h := ?_))
            refine XDi_pvA (pv_buildG [.int .i64 pg, .int .i64 n, .int .u64 (ofI pg n).1, .int .u64 (ofI pg n).2]) (h := ?_)
            repeat (fail)
            refine XD_one (h := ?_)
            refine XDa_dvA (dv_lit (E' := ePart) [(pg, n, (ofI pg n).1, (ofI pg n).2)]) (hk := ?_)
            rintro _ _ ⟨lb, rfl, rfl⟩
            refine ⟨by (repeat (first | exact keeps_nil | exact keeps_fnil | refine keeps_skip (h := ?_) | refine keeps_takeA (hv := by first | exact rv_load | exact rv_loadW | exact rv_loadS) (h := ?_))), ?_⟩
            repeat (fail)
            refine XD_one (h := ?_)
            refine XDa_dvA (dv_append (E' := ePart) (xs := s.parts) (ys := [(pg, n, (ofI pg n).1, (ofI pg n).2)]) (A := Sl ePart (some ⟨lb, 0, none⟩) 1 [(pg, n, (ofI pg n).1, (ofI pg n).2)]) (a := a) (a2 := some ⟨lb, 0, none⟩) (c := c) (c2 := 1) (hv := Sl.view) (hb := by simp; omega)) (hk := ?_)
            rintro _ _ ⟨a3, c3, rfl, rfl⟩
            refine ⟨by (repeat (first | exact keeps_nil | exact keeps_fnil | refine keeps_skip (h := ?_) | refine keeps_takeA (hv := by first | exact rv_load | exact rv_loadW | exact rv_loadS) (h := ?_))), ?_⟩
            repeat (first | refine Dp pv_nil_ptr ?_ | refine Dp pv_field ?_ | refine XD_pick (h := ?_))
            refine XD_one (h := ?_)
            refine XDa_dvk0 dv_store (K := _) (hk := ?_)
            rintro _ _ rfl
            refine ⟨by (repeat (first | exact keeps_nil | exact keeps_fnil | refine keeps_skip (h := ?_) | refine keeps_takeA (hv := by first | exact rv_load | exact rv_loadW | exact rv_loadS) (h := ?_))), ?_⟩
            (refine XD_end (h := ?_); repeat (first | refine Zp pv_move ?_ | refine X_seq ?_ | refine X_region ?_ | refine XE_code ?_))
            refine XO_fold (by repeat (first | exact FindAll.nil | exact Find.here | apply Find.there | apply FindAll.cons)) (Shd.fold (s := partS s (pg, n) (ofI pg n)) (a := a3) (c := c3) (a' := a') (c' := c')) ?_
            have htA : topAt (partS s (pg, n) (ofI pg n)) = (ofI pg n).1 := by unfold topAt partS; rw [lastP_append]
            have htE : topEnd (partS s (pg, n) (ofI pg n)) = (ofI pg n).2 := by unfold topEnd partS; rw [lastP_append]
            have hsl : (partS s (pg, n) (ofI pg n)).parts.length ≤ 4611686018427387904 := by simp [partS]; omega
            generalize partS s (pg, n) (ofI pg n) = s1 at htA htE hsl ⊢
            refine XO_call (top_spec b s1 hsl) (hk := ?_)
            rintro _ _ ⟨cb2, o2, A2, G2, a5, a6, c5, c6, rfl, hCur2, hfold2, rfl⟩
            repeat (first | refine Zp pv_move ?_)
            refine XO_call (made_spec b cb2 o2 (topEnd s1) A2 hCur2 a5 a6 s1.parts.length s1.larges.length c5 c6 s1.obj s1.pad (topAt s1) size align (by rw [htA]; exact hob.1) (by rw [htA]; exact hob.2.1) (by rw [htE]; exact hob.2.2.1) (by rw [htE]; exact hob.2.2.2) h0 h1 h2 h3) (hk := ?_)
            intro v L' hpost
            unfold madeS
            cases hf2 : fitI (topAt s1) (topEnd s1) size align with
            | none =>
              rw [hf2] at hpost
              obtain ⟨rfl, rfl⟩ := hpost
              refine XO_fold (by repeat (first | exact FindAll.nil | exact Find.here | apply Find.there | apply FindAll.cons)) (hfold2 (topAt s1) s1.obj s1.pad) ?_
              rw [setTop_self]
              repeat (first | refine Zp pv_assign ?_ | refine X_seq ?_ | refine X_region ?_ | refine X_ret ?_ | refine XO_nil ?_ | refine XE_code ?_)
              refine XE_fold (by repeat (first | exact FindAll.nil | exact Find.here | apply Find.there | apply FindAll.cons)) (Lg.back _ hM hn1) ?_
              refine XE_ret (.inl rfl) (tells_tmps rfl rfl) ⟨_, ⟨rfl, rfl⟩, by ((try simp only [List.cons_append, List.nil_append]); repeat (first | exact ent_refl | refine ent_take (by repeat (first | exact Find.here | apply Find.there)) ?_ | refine ent_drop ?_))⟩
            | some q =>
              rw [hf2] at hpost
              obtain ⟨rfl, rfl⟩ := hpost
              refine XO_fold (by repeat (first | exact FindAll.nil | exact Find.here | apply Find.there | apply FindAll.cons)) (hfold2 q.2.1 _ _) ?_
              repeat (first | refine Zp pv_assign ?_ | refine X_seq ?_ | refine X_region ?_ | refine X_ret ?_ | refine XO_nil ?_ | refine XE_code ?_)
              refine XE_fold (by repeat (first | exact FindAll.nil | exact Find.here | apply Find.there | apply FindAll.cons)) (Lg.back _ hM hn1) ?_
              refine XE_ret (.inl rfl) (tells_tmps rfl rfl) ⟨_, ⟨rfl, rfl⟩, by ((try simp only [List.cons_append, List.nil_append]); repeat (first | exact ent_refl | refine ent_take (by repeat (first | exact Find.here | apply Find.there)) ?_ | refine ent_drop ?_))⟩
        · rw [if_neg he]
          repeat (first | refine Zp pv_move ?_ | refine Zp pv_assign ?_ | refine Zp pv_cmp ?_ | refine X_seq ?_ | refine X_region ?_ | refine XO_nil ?_ | refine XE_code ?_)
          refine X_cond rfl (fun _ => ?_) (fun h => ?_)
          · repeat (first | refine Zp pv_move ?_ | refine Zp pv_assign ?_ | refine X_seq ?_ | refine X_region ?_ | refine X_ret ?_ | refine XO_nil ?_ | refine XE_code ?_ | refine XE_code_ret ?_)
            refine XE_fold (by repeat (first | exact FindAll.nil | exact Find.here | apply Find.there | apply FindAll.cons)) (Lg.back s hM hn1) ?_
            refine XE_ret (.inl rfl) (tells_tmps rfl rfl) ⟨_, ⟨rfl, rfl⟩, by ((try simp only [List.cons_append, List.nil_append]); repeat (first | exact ent_refl | refine ent_take (by repeat (first | exact Find.here | apply Find.there)) ?_ | refine ent_drop ?_))⟩
          · exfalso; exact he (by simpa using h)
end Go.Proofs.Ytlhjiciimeefeaa.Sep
