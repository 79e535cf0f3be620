import Derived.Test.YtamecmklcnohjaaGreatBn15
/- The law Law18L: it answers true whatever it is given, and what was there stays. No conditions. -/
namespace Go.Proofs.YtamecmklcnohjaaGreat.Sep
open Go.RowKit
set_option linter.unusedSimpArgs false
set_option linter.unusedVariables false
/-! each object begins at a multiple of its alignment, has the size that was asked for, and lies in one of its region's chunks -/
theorem wf_u32 {a : Int} (h : (Lit.int .u32 a).wf = true) : 0 ≤ a ∧ a ≤ 4294967295 := by
  simp [Lit.wf, IntKind.min, IntKind.max, IntKind.signed, IntKind.bits] at h; exact h
structure LnJ (B : Nat) (b : Nat) (z : Ar) (S : Sh) : Prop where
  ok : AOk B z
  one : z.M[0]? = some (b, aH, S)
set_option maxHeartbeats 8000000
attribute [local irreducible] X XE XO XD XDi XDa PV RV DV pt base Spec Sl Mp Keeps Pg Kc
attribute [local irreducible] Pgs Spc Ck XL XLi Pl Rs Rg View Tbl Tre Ros Star RgOf Arn
theorem aligned18 (a1 a2 : Option Addr) (c1 c2 : Nat) (xs ys : List Int) (hx : ∀ n ∈ xs, (Lit.int .u32 n).wf = true) (hy : ∀ n ∈ ys, (Lit.int .u8 n).wf = true) (hl1 : xs.length ≤ maxLen) (hl2 : ys.length ≤ maxLen) (W : World) (V1 : View (base W) (eI .u32) a1 xs) (V2 : View (base W) (eI .u8) a2 ys) :
    Calls Tryz.prog 12 #[.slice a1 xs.length c1, .slice a2 ys.length c2] W fun e w' => e = .returned (.bool true) ∧ Below W.heap.size W w' := by
  refine law_intro (args := [.slice a1 xs.length c1, .slice a2 ys.length c2]) Tryz.func12 rfl Tryz.ntmps12 (by simp) ?_
  simp only [envOf, List.zipIdx, List.map, List.cons_append, List.nil_append, Nat.zero_add, Nat.reduceAdd]
  repeat (first | refine Zq ?_ | refine Zs ?_ | refine ZT ?_ | refine ZF ?_ | refine Zc ?_ | refine XO_gU (hk := ?_))
  refine XO_call awake18_spec (hk := ?_)
  rintro _ _ ⟨rfl, rfl⟩
  repeat (first | refine Zq ?_ | refine Zs ?_ | refine ZT ?_ | refine ZF ?_ | refine Zc ?_ | refine XO_gU (hk := ?_))
  refine X_cond rfl (fun h => by cases h) (fun _ => ?_)
  repeat (first | refine Zq ?_ | refine Zs ?_ | refine ZT ?_ | refine ZF ?_ | refine Zc ?_ | refine XO_gU (hk := ?_))
  refine XO_either (hT := fun h => ?_) (hF := fun h => ?_) <;> simp only [decide_eq_true_eq, decide_eq_false_iff_not] at h
  · repeat (first | refine Zq ?_ | refine Zs ?_ | refine ZT ?_ | refine ZF ?_ | refine Zc ?_ | refine XO_gU (hk := ?_))
    refine X_cond rfl (fun _ => ?_) (fun h => by cases h)
    repeat (first | refine Zq ?_ | refine Zs ?_ | refine ZT ?_ | refine ZF ?_ | refine Zc ?_ | refine XO_gU (hk := ?_))
    refine XE_ret (.inl rfl) (tells_tmps rfl rfl) ⟨_, ⟨rfl, rfl⟩, by ((try simp only [List.cons_append, List.nil_append]); repeat (first | exact ent_refl | refine ent_take (by repeat (first | exact Find.here | apply Find.there)) ?_ | refine ent_drop ?_))⟩
  repeat (first | refine Zq ?_ | refine Zs ?_ | refine ZT ?_ | refine ZF ?_ | refine Zc ?_ | refine XO_gU (hk := ?_))
  refine X_cond rfl (fun h2 => ?_) (fun h2 => ?_) <;> simp only [beq_iff_eq, beq_eq_false_iff_ne, ne_eq] at h2
  · repeat (first | refine Zq ?_ | refine Zs ?_ | refine ZT ?_ | refine ZF ?_ | refine Zc ?_ | refine XO_gU (hk := ?_))
    refine XE_ret (.inl rfl) (tells_tmps rfl rfl) ⟨_, ⟨rfl, rfl⟩, by ((try simp only [List.cons_append, List.nil_append]); repeat (first | exact ent_refl | refine ent_take (by repeat (first | exact Find.here | apply Find.there)) ?_ | refine ent_drop ?_))⟩
  have hx30 : xs.length ≤ 30 := by omega
  have hy0 : 0 < ys.length := by omega
  repeat (first | refine Zq ?_ | refine Zs ?_ | refine ZT ?_ | refine ZF ?_ | refine Zc ?_ | refine XO_gU (hk := ?_))
  refine XO_call (ar_new 5000) (hk := ?_)
  rintro _ _ ⟨x, rfl, rfl⟩
  have hA0 := AOk.new 5000
  rw [show min (max (5000 : Int) 1) 1048576 = 5000 from rfl] at hA0 ⊢
  generalize hz0 : (⟨⟨5000, [(0, 5000)], fun _ => [], 0⟩, ⟨fun _ => 0, 0⟩, 5000, ⟨1, [], []⟩, [], ⟨2, [], []⟩, ⟨3, [], []⟩, [], []⟩ : Ar) = z0 at hA0 ⊢
  have hh0 : z0.reg.addH = aH := by subst hz0; kernel_rfl
  have hM0 : z0.M = [] := by subst hz0; rfl
  clear hz0
  repeat (first | refine Zq ?_ | refine Zs ?_ | refine ZT ?_ | refine ZF ?_ | refine Zc ?_ | refine XO_gU (hk := ?_))
  refine XO_call (ar_create x z0 hA0 (by decide) 0 (by decide) (by decide) (.inl rfl)) (hk := ?_)
  rintro _ _ ⟨b, rfl, rfl⟩
  have hA1 := hA0.created (by decide) (p := 0) (.inl rfl) b
  have hM1 : (z0.created 0 b).M[0]? = some (b, aH, emptySh) := by unfold Ar.created; rw [hM0, hh0]; rfl
  rw [hh0]
  generalize z0.created 0 b = z1 at hA1 hM1 ⊢
  repeat (first | refine Zq ?_ | refine Zs ?_ | refine ZT ?_ | refine ZF ?_ | refine Zc ?_ | refine XO_gU (hk := ?_))
  refine X_loop (ι := Nat × Ar × Sh) (fun y => y.1 ≤ xs.length ∧ LnJ (y.1 + 1) b y.2.1 y.2.2)
    (fun y => [(0, .slice a1 xs.length c1), (1, .slice a2 ys.length c2), (6, .pointer (some ⟨x.a, 0, none⟩)), (7, .int .u64 aH), (8, .int .i64 0), (9, .int .i64 (y.1 : Int))])
    (fun y => [Arn x y.2.1, base W]) (fun y => xs.length - y.1) (0, z1, emptySh) ⟨Nat.zero_le _, hA1, hM1⟩ ?_ (by ((try simp only [List.cons_append, List.nil_append]); repeat (first | exact ent_nil | exact ent_refl | refine ent_take (by repeat (first | exact Find.here | apply Find.there)) ?_ | refine ent_drop ?_))) ?_
  · (repeat (first | exact Env.sub_nil _ | refine Env.sub_cons rfl ?_))
  rintro ⟨i, z, S⟩ ⟨hi, hA, hM⟩
  dsimp only at hi hA hM ⊢
  repeat (first | refine Zq ?_ | refine Zs ?_ | refine ZT ?_ | refine ZF ?_ | refine Zc ?_ | refine XO_gU (hk := ?_))
  refine X_cond rfl (fun hc => ?_) (fun hc => ?_) <;> simp only [decide_eq_true_eq, decide_eq_false_iff_not] at hc
  case refine_2 =>
    repeat (first | refine Zq ?_ | refine Zs ?_ | refine ZT ?_ | refine ZF ?_ | refine Zc ?_ | refine XO_gU (hk := ?_))
    refine XE_ret (.inl rfl) (tells_tmps rfl rfl) ⟨_, ⟨rfl, rfl⟩, by ((try simp only [List.cons_append, List.nil_append]); repeat (first | exact ent_refl | refine ent_take (by repeat (first | exact Find.here | apply Find.there)) ?_ | refine ent_drop ?_))⟩
  have hil : i < xs.length := by omega
  have hxi := wf_u32 (hx _ (List.getElem_mem hil))
  have hgx : xs[i]? = some xs[i] := List.getElem?_eq_getElem hil
  generalize xs[i] = n0 at hgx hxi
  have hj0 : 0 ≤ (i : Int) % (ys.length : Int) := Int.emod_nonneg _ (by omega)
  have hj1 : (i : Int) % (ys.length : Int) < (ys.length : Int) := Int.emod_lt_of_pos _ (by omega)
  have hjl : ((i : Int) % (ys.length : Int)).toNat < ys.length := by omega
  have hki := wf_u8 (hy _ (List.getElem_mem hjl))
  have hgy : ys[((i : Int) % (ys.length : Int)).toNat]? = some ys[((i : Int) % (ys.length : Int)).toNat] := List.getElem?_eq_getElem hjl
  generalize ys[((i : Int) % (ys.length : Int)).toNat] = k0 at hgy hki
  have hab := al2_bd hki.1
  refine X_view (A := base W) (by (repeat (first | exact Find.here | apply Find.there))) V1 (by omega) ?_
  rintro vb vo rfl
  refine X_view (A := base W) (by (repeat (first | exact Find.here | apply Find.there))) V2 hy0 ?_
  rintro wb wo rfl
  repeat (first | refine Zq ?_ | refine Zs ?_ | refine ZT ?_ | refine ZF ?_ | refine Zc ?_ | refine XO_gU (hk := ?_))
  refine XO_pv (pv_shlN (b := k0 % 13) (hw := al2_shl hki.1)) (hk := ?_)
  clear hgx hgy
  repeat (first | refine Zq ?_ | refine Zs ?_ | refine ZT ?_ | refine ZF ?_ | refine Zc ?_ | refine XO_gU (hk := ?_))
  have hgd := al2_good (size := n0 % 600000 + 1) hki.1 (by omega)
  generalize hnn : n0 % 600000 + 1 = n at hgd ⊢
  generalize al2 k0 = al at hab hgd ⊢
  have hn1 : 1 ≤ n ∧ n ≤ 600000 := by omega
  have hR := hA.R.one hM
  obtain ⟨C', m', S', at_, e, har⟩ := AR.ex z.P z.C z.m S aH n al
  have he : e = 0 ∨ e = 4 := by
    cases har with
    | bad hb => exact absurd hb hgd
    | _ => simp
  refine XO_call (ar_alloc x z hA (by omega) hM n al (by omega) (by omega) (by omega) (by omega) har) (hk := ?_)
  rintro _ _ ⟨rfl, rfl⟩
  have hA' := hA.alloced (by omega) hM (by omega) (by omega) (by omega) har
  have hM' : (z.alloced 0 b aH n C' m' S' at_ e).M[0]? = some (b, aH, S') := by
    show (z.M.set 0 (b, aH, S'))[0]? = _
    have := (List.getElem?_eq_some_iff.1 hM).1
    simp [this]
  rcases he with he | he
  case inr =>
    subst he
    rw [if_neg (by decide)]
    generalize z.alloced 0 b aH n C' m' S' at_ 4 = z' at hA' hM' ⊢
    repeat (first | refine Zq ?_ | refine Zs ?_ | refine ZT ?_ | refine ZF ?_ | refine Zc ?_ | refine XO_gU (hk := ?_))
    refine X_cond rfl (fun _ => ?_) (fun h => by cases h)
    repeat (first | refine Zq ?_ | refine Zs ?_ | refine ZT ?_ | refine ZF ?_ | refine Zc ?_ | refine XO_gU (hk := ?_))
    exact X_round (i + 1, z', S') ⟨by show i + 1 ≤ xs.length; omega, hA', hM'⟩ (by show xs.length - (i + 1) < xs.length - i; omega) (by (repeat (first | exact Env.sub_nil _ | refine Env.sub_cons rfl ?_))) (by ((try simp only [List.cons_append, List.nil_append]); repeat (first | exact ent_nil | exact ent_refl | refine ent_take (by repeat (first | exact Find.here | apply Find.there)) ?_ | refine ent_drop ?_)))
  have hpl := har.place hR (show (0 : Int) ≤ aH ∧ aH < 18446744073709551616 by decide +kernel) (by omega) (by omega) (by omega) he
  have hR' := hA'.R.one hM'
  subst he
  have hob := Tb.addH_bd hA.ob
  have hgo : (z.alloced 0 b aH n C' m' S' at_ 0).obj.get z.obj.addH = some (at_, n, aH) := by
    show (if (0 : Int) = 0 then z.obj.add (at_, n, aH) else z.obj).get z.obj.addH = _
    rw [if_pos rfl, Tb.get_add hA.ob _ hob.1 hob.2, if_pos rfl]
  rw [if_pos rfl]
  generalize z.obj.addH = oh at hob hgo ⊢
  generalize z.alloced 0 b aH n C' m' S' at_ 0 = z' at hA' hM' hgo hR' ⊢
  repeat (first | refine Zq ?_ | refine Zs ?_ | refine ZT ?_ | refine ZF ?_ | refine Zc ?_ | refine XO_gU (hk := ?_))
  refine X_cond rfl (fun h => by cases h) (fun _ => ?_)
  repeat (first | refine Zq ?_ | refine Zs ?_ | refine ZT ?_ | refine ZF ?_ | refine Zc ?_ | refine XO_gU (hk := ?_))
  refine XO_call (ar_place x z' hA' oh hob.1 hob.2) (hk := ?_)
  rintro _ _ ⟨rfl, rfl⟩
  rw [hgo]
  dsimp only [Option.getD, Option.isSome]
  repeat (first | refine Zq ?_ | refine Zs ?_ | refine ZT ?_ | refine ZF ?_ | refine Zc ?_ | refine XO_gU (hk := ?_))
  refine XO_call (ar_chunks x z' hA' hM') (hk := ?_)
  rintro _ _ ⟨ca, cc, rfl, rfl⟩
  have hA2 : AOk (i + 1 + 1) { z' with m := walkM z'.P (walkM z'.P z'.m (S'.parts.map runP)) S'.larges } := hA'.mem (by rw [walkM_f, walkM_f])
  have hM2 : ({ z' with m := walkM z'.P (walkM z'.P z'.m (S'.parts.map runP)) S'.larges } : Ar).M[0]? = some (b, aH, S') := hM'
  generalize ({ z' with m := walkM z'.P (walkM z'.P z'.m (S'.parts.map runP)) S'.larges } : Ar) = z2 at hA2 hM2 ⊢
  obtain ⟨p1, p2, pr, hpr, p3, p4, p5⟩ := hpl
  have hbd := hR'.bd
  have hlen := hR'.len
  have hpm : pr ∈ (S'.parts.map runP).reverse ++ S'.larges.reverse := by
    rcases List.mem_append.1 hpr with h1 | h1
    · exact List.mem_append.2 (.inl (List.mem_reverse.2 h1))
    · exact List.mem_append.2 (.inr (List.mem_reverse.2 h1))
  have hLb : Bd ((S'.parts.map runP).reverse ++ S'.larges.reverse) := fun r hr => by
    rcases List.mem_append.1 hr with h1 | h1
    · exact hbd.1 r (List.mem_reverse.1 h1)
    · exact hbd.2 r (List.mem_reverse.1 h1)
  have hLl : ((S'.parts.map runP).reverse ++ S'.larges.reverse).length ≤ 2097152 := by
    rw [List.length_append, List.length_reverse, List.length_reverse, List.length_map]
    have h1 := hlen.1
    have h2 := hlen.2
    dsimp only at h1 h2
    omega
  generalize (S'.parts.map runP).reverse ++ S'.larges.reverse = rs at hpm hLb hLl ⊢
  have hat := hLb pr hpm
  repeat (first | refine Zq ?_ | refine Zs ?_ | refine ZT ?_ | refine ZF ?_ | refine Zc ?_ | refine XO_gU (hk := ?_))
  refine X_loop (ι := Nat × Bool) (fun y => y.1 ≤ rs.length ∧ ∀ q ∈ rs.take y.1, q.1 * 4096 + 32 ≤ at_ → at_ + n ≤ (q.1 + q.2) * 4096 → y.2 = true)
    (fun y => [(0, .slice (some ⟨vb, vo, none⟩) xs.length c1), (1, .slice (some ⟨wb, wo, none⟩) ys.length c2), (6, .pointer (some ⟨x.a, 0, none⟩)), (7, .int .u64 aH), (8, .int .i64 0), (9, .int .i64 (i : Int)), (10, .int .u64 n), (11, .int .u64 al), (13, .int .i64 0), (14, .int .u64 at_), (15, .int .u64 n), (16, .int .u64 aH), (17, .bool true), (18, .slice ca rs.length cc), (19, .bool y.2), (20, .int .i64 (y.1 : Int))])
    (fun y => [Arn x z2, Sl eRun ca cc rs, base W]) (fun y => rs.length - y.1) (0, false) ⟨Nat.zero_le _, fun q hq => by cases hq⟩ ?_ (by ((try simp only [List.cons_append, List.nil_append]); repeat (first | exact ent_nil | exact ent_refl | refine ent_take (by repeat (first | exact Find.here | apply Find.there)) ?_ | refine ent_drop ?_))) ?_
  · (repeat (first | exact Env.sub_nil _ | refine Env.sub_cons rfl ?_))
  rintro ⟨j, inb⟩ ⟨hj, hin⟩
  dsimp only at hj hin ⊢
  repeat (first | refine Zq ?_ | refine Zs ?_ | refine ZT ?_ | refine ZF ?_ | refine Zc ?_ | refine XO_gU (hk := ?_))
  refine X_cond rfl (fun hc3 => ?_) (fun hc3 => ?_) <;> simp only [decide_eq_true_eq, decide_eq_false_iff_not] at hc3
  · have hjl : j < rs.length := by omega
    have hgr : rs[j]? = some rs[j] := List.getElem?_eq_getElem hjl
    have hrr := hLb rs[j] (List.getElem_mem hjl)
    have htk : rs.take (j + 1) = rs.take j ++ [rs[j]] := List.take_succ_eq_append_getElem hjl
    generalize rs[j] = q at hgr hrr htk
    refine X_slopen (E' := eRun) (a := ca) (c := cc) (xs := rs) (by (repeat (first | exact Find.here | apply Find.there))) (by omega) ?_
    rintro qb qo rfl
    repeat (first | refine Zq ?_ | refine Zs ?_ | refine ZT ?_ | refine ZF ?_ | refine Zc ?_ | refine XO_gU (hk := ?_))
    repeat (first | refine XD_pick (h := ?_) | refine Dq ?_ | refine Ds ?_ | refine XDi_gF (h := ?_) | refine XDi_gU (h := ?_) | refine X_draws (h := ?_))
    cases inb with
    | true =>
      repeat (first | refine XD_pick (h := ?_) | refine Dq ?_ | refine Ds ?_ | refine XDi_gF (h := ?_) | refine XDi_gU (h := ?_) | refine X_draws (h := ?_))
      (refine XD_one (h := ?_); refine XDa_dvA (dv_of_rv (rv_of_pv pv_assign)) (hk := ?_); rintro _ _ ⟨rfl, rfl⟩; refine ⟨by (repeat (first | exact keeps_nil | exact keeps_fnil | refine keeps_skip (h := ?_) | refine keeps_takeQ (h := ?_))), ?_⟩)
      (refine XD_end (h := ?_); repeat (first | refine Zq ?_ | refine Zs ?_ | refine ZT ?_ | refine ZF ?_ | refine Zc ?_ | refine XO_gU (hk := ?_)))
      exact X_round (j + 1, true) ⟨by show j + 1 ≤ rs.length; omega, fun _ _ _ _ => rfl⟩ (by show rs.length - (j + 1) < rs.length - j; omega) (by (repeat (first | exact Env.sub_nil _ | refine Env.sub_cons rfl ?_))) (by ((try simp only [List.cons_append, List.nil_append]); repeat (first | exact ent_nil | exact ent_refl | refine ent_take (by repeat (first | exact Find.here | apply Find.there)) ?_ | refine ent_drop ?_)))
    | false =>
      repeat (first | refine XD_pick (h := ?_) | refine Dq ?_ | refine Ds ?_ | refine XDi_gF (h := ?_) | refine XDi_gU (h := ?_) | refine X_draws (h := ?_))
      refine XDi_either (hT := fun h7 => ?_) (hF := fun h7 => ?_) <;> simp only [decide_eq_true_eq, decide_eq_false_iff_not] at h7
      · repeat (first | refine XD_pick (h := ?_) | refine Dq ?_ | refine Ds ?_ | refine XDi_gF (h := ?_) | refine XDi_gU (h := ?_) | refine X_draws (h := ?_))
        (refine XD_one (h := ?_); refine XDa_dvA (dv_of_rv (rv_of_pv pv_assign)) (hk := ?_); rintro _ _ ⟨rfl, rfl⟩; refine ⟨by (repeat (first | exact keeps_nil | exact keeps_fnil | refine keeps_skip (h := ?_) | refine keeps_takeQ (h := ?_))), ?_⟩)
        (refine XD_end (h := ?_); repeat (first | refine Zq ?_ | refine Zs ?_ | refine ZT ?_ | refine ZF ?_ | refine Zc ?_ | refine XO_gU (hk := ?_)))
        refine X_round (j + 1, decide (at_ + n ≤ (q.1 + q.2) * 4096)) ⟨by show j + 1 ≤ rs.length; omega, fun y hy y1 y2 => ?_⟩ (by show rs.length - (j + 1) < rs.length - j; omega) (by (repeat (first | exact Env.sub_nil _ | refine Env.sub_cons rfl ?_))) (by ((try simp only [List.cons_append, List.nil_append]); repeat (first | exact ent_nil | exact ent_refl | refine ent_take (by repeat (first | exact Find.here | apply Find.there)) ?_ | refine ent_drop ?_)))
        rw [htk] at hy
        rcases List.mem_append.1 hy with hy | hy
        · cases hin y hy y1 y2
        · simp at hy; subst hy; exact decide_eq_true y2
      · repeat (first | refine XD_pick (h := ?_) | refine Dq ?_ | refine Ds ?_ | refine XDi_gF (h := ?_) | refine XDi_gU (h := ?_) | refine X_draws (h := ?_))
        (refine XD_one (h := ?_); refine XDa_dvA (dv_of_rv (rv_of_pv pv_assign)) (hk := ?_); rintro _ _ ⟨rfl, rfl⟩; refine ⟨by (repeat (first | exact keeps_nil | exact keeps_fnil | refine keeps_skip (h := ?_) | refine keeps_takeQ (h := ?_))), ?_⟩)
        (refine XD_end (h := ?_); repeat (first | refine Zq ?_ | refine Zs ?_ | refine ZT ?_ | refine ZF ?_ | refine Zc ?_ | refine XO_gU (hk := ?_)))
        refine X_round (j + 1, false) ⟨by show j + 1 ≤ rs.length; omega, fun y hy y1 y2 => ?_⟩ (by show rs.length - (j + 1) < rs.length - j; omega) (by (repeat (first | exact Env.sub_nil _ | refine Env.sub_cons rfl ?_))) (by ((try simp only [List.cons_append, List.nil_append]); repeat (first | exact ent_nil | exact ent_refl | refine ent_take (by repeat (first | exact Find.here | apply Find.there)) ?_ | refine ent_drop ?_)))
        rw [htk] at hy
        rcases List.mem_append.1 hy with hy | hy
        · exact hin y hy y1 y2
        · simp at hy; subst hy; omega
  obtain rfl : j = rs.length := by omega
  rw [List.take_length] at hin
  obtain rfl : inb = true := hin _ hpm p3 p4
  repeat (first | refine Zq ?_ | refine Zs ?_ | refine ZT ?_ | refine ZF ?_ | refine Zc ?_ | refine XO_gU (hk := ?_))
  rw [show (n != n) = false from by simp]
  repeat (first | refine Zq ?_ | refine Zs ?_ | refine ZT ?_ | refine ZF ?_ | refine Zc ?_ | refine XO_gU (hk := ?_))
  rw [show (aH != aH) = false from by simp]
  repeat (first | refine Zq ?_ | refine Zs ?_ | refine ZT ?_ | refine ZF ?_ | refine Zc ?_ | refine XO_gU (hk := ?_))
  rw [show (at_ % al != 0) = false from by simp [p2]]
  repeat (first | refine Zq ?_ | refine Zs ?_ | refine ZT ?_ | refine ZF ?_ | refine Zc ?_ | refine XO_gU (hk := ?_))
  refine X_cond rfl (fun h => by cases h) (fun _ => ?_)
  repeat (first | refine Zq ?_ | refine Zs ?_ | refine ZT ?_ | refine ZF ?_ | refine Zc ?_ | refine XO_gU (hk := ?_))
  exact X_round (i + 1, z2, S') ⟨by show i + 1 ≤ xs.length; omega, hA2, hM2⟩ (by show xs.length - (i + 1) < xs.length - i; omega) (by (repeat (first | exact Env.sub_nil _ | refine Env.sub_cons rfl ?_))) (by ((try simp only [List.cons_append, List.nil_append]); repeat (first | exact ent_nil | exact ent_refl | refine ent_take (by repeat (first | exact Find.here | apply Find.there)) ?_ | refine ent_drop ?_)))
end Go.Proofs.YtamecmklcnohjaaGreat.Sep
