import Derived.Test.YtgoocobeoejoaaaBn12
import Derived.Test.YtgoocobeoejoaaaBn8
/- The law Law15P: it answers true whatever it is given, and what was there stays. No conditions. -/
namespace Go.Proofs.Ytgoocobeoejoaaa.Sep
open Go.RowKit
set_option linter.unusedSimpArgs false
set_option linter.unusedVariables false
/-! what was made doesn't overlap, and keeps its bytes -/
theorem ent_nil {L : List HP} : ∀ H, SL L H → SL [] H := fun _ _ => trivial
def eOA : E Ob := ⟨1, false, fun b => [.int .u64 b.1], fun _ => rfl, fun _ _ h => by simp at h; subst h; rfl, by decide, fun _ => rfl⟩
def eOS : E Ob := ⟨1, false, fun b => [.int .i64 (b.2.1 + 100000 * b.2.2)], fun _ => rfl, fun _ _ h => by simp at h; subst h; rfl, by decide, fun _ => rfl⟩
def eMK : E (Sh × Nat) := ⟨5, true, fun q => [.int .i64 (q.1.parts.length : Int), .int .i64 (q.1.larges.length : Int), .int .u64 (topAt q.1), .int .u64 q.1.obj, .int .u64 q.1.pad], fun _ => rfl, fun _ _ h => by simp at h; rcases h with rfl | rfl | rfl | rfl | rfl <;> rfl, by decide, fun h => by cases h⟩
def eML : E (Sh × Nat) := ⟨1, false, fun q => [.int .i64 (q.2 : Int)], fun _ => rfl, fun _ _ h => by simp at h; subst h; rfl, by decide, fun _ => rfl⟩
structure ApZ where
  C : Co
  m : Mm
  S : Sh
  bs : List Ob
  ms : List (Sh × Nat)
  a1 : Option Addr
  c1 : Nat
  a2 : Option Addr
  c2 : Nat
  a3 : Option Addr
  c3 : Nat
  a4 : Option Addr
  c4 : Nat
structure ApJ (i j : Nat) (z : ApZ) : Prop where
  R : RInv 600 i 3 z.C z.m.f z.S []
  I : ObI z.m.f z.S z.bs
  M : MkI z.S z.bs z.ms
  lb : z.bs.length ≤ i
  lm : z.ms.length ≤ j
theorem ApJ.up {i j : Nat} {z : ApZ} (h : ApJ i j z) : ApJ (i + 1) j z := ⟨h.R.up, h.I, h.M, by have := h.lb; omega, h.lm⟩
theorem ApJ.upj {i j : Nat} {z : ApZ} (h : ApJ i j z) : ApJ i (j + 1) z := ⟨h.R, h.I, h.M, h.lb, by have := h.lm; omega⟩
theorem apart_at {bs : List Ob} (h : bs.Pairwise Apart) {j k : Nat} (hj : j < k) (hk : k < bs.length) : Apart (bs[j]'(by omega)) bs[k] := (List.pairwise_iff_getElem.1 h) j k (by omega) hk hj
theorem bd_revA {l : List (Int × Int)} (h : Bd l) : Bd l.reverse := fun r hr => h r (List.mem_reverse.1 hr)
set_option maxHeartbeats 8000000
attribute [local irreducible] X XE XO XD XDi XDa PV RV DV pt base Spec Sl Mp Keeps Pg Kc Pgs Spc Ck XL XLi Pl Rs Rg View Frz
theorem apart15 (a0 : Option Addr) (c0 : Nat) (xs : List A15) (hok : ∀ x ∈ xs, OkA x) (hl1 : xs.length ≤ maxLen) (W : World) (V1 : View (base W) eAct a0 xs) :
    Calls Try.prog 3 #[.slice a0 xs.length c0] W fun e w' => e = .returned (.bool true) ∧ Below W.heap.size W w' := by
  refine law_intro (args := [.slice a0 xs.length c0]) Try.func3 rfl Try.ntmps3 (by simp) ?_
  simp only [envOf, List.zipIdx, List.map, List.cons_append, List.nil_append, Nat.zero_add, Nat.reduceAdd]
  repeat (first | refine Zq ?_ | refine Zs ?_ | refine ZT ?_ | refine ZF ?_ | refine Zc ?_ | refine XO_gU (hk := ?_))
  refine XO_call awake15_spec (hk := ?_)
  rintro _ _ ⟨rfl, rfl⟩
  repeat (first | refine Zq ?_ | refine Zs ?_ | refine ZT ?_ | refine ZF ?_ | refine Zc ?_ | refine XO_gU (hk := ?_))
  refine X_cond rfl (fun h => by cases h) (fun _ => ?_)
  repeat (first | refine Zq ?_ | refine Zs ?_ | refine ZT ?_ | refine ZF ?_ | refine Zc ?_ | refine XO_gU (hk := ?_))
  refine X_cond rfl (fun h3 => ?_) (fun h3 => ?_) <;> simp only [decide_eq_true_eq, decide_eq_false_iff_not] at h3
  · repeat (first | refine Zq ?_ | refine Zs ?_ | refine ZT ?_ | refine ZF ?_ | refine Zc ?_ | refine XO_gU (hk := ?_))
    refine XE_ret (.inl rfl) (tells_tmps rfl rfl) ⟨_, ⟨rfl, rfl⟩, by ((try simp only [List.cons_append, List.nil_append]); repeat (first | exact ent_refl | refine ent_take (by repeat (first | exact Find.here | apply Find.there)) ?_ | refine ent_drop ?_))⟩
  repeat (first | refine Zq ?_ | refine Zs ?_ | refine ZT ?_ | refine ZF ?_ | refine Zc ?_ | refine XO_gU (hk := ?_))
  refine XO_call (knew_spec 600) (hk := ?_)
  rintro _ _ ⟨s, sb, rfl, rfl⟩
  have hr0 : RInv 600 0 3 ⟨600, [(0, 600)], fun _ => [], 0⟩ (⟨fun _ => 0, 0⟩ : Mm).f emptySh [] := emptyInv (by decide) (by decide) 3
  have hJ0 : ApJ 0 0 ⟨⟨600, [(0, 600)], fun _ => [], 0⟩, ⟨fun _ => 0, 0⟩, emptySh, [], [], none, 0, none, 0, none, 0, none, 0⟩ :=
    ⟨hr0, ⟨(fun b hb => by cases hb), (fun b hb => by cases hb), (fun b hb => by cases hb), List.Pairwise.nil, (fun b hb => by cases hb), rfl⟩, ⟨(fun b hb => by cases hb), List.Pairwise.nil⟩, Nat.le_refl _, Nat.le_refl _⟩
  clear hr0
  generalize hm0 : (⟨fun _ => 0, 0⟩ : Mm) = m0 at hJ0 ⊢
  repeat (first | refine Zq ?_ | refine Zs ?_ | refine ZT ?_ | refine ZF ?_ | refine Zc ?_ | refine XO_gU (hk := ?_))
  refine XO_call (rnew_spec s 3) (hk := ?_)
  rintro _ _ ⟨r, rfl, rfl⟩
  repeat (first | refine Zq ?_ | refine Zs ?_ | refine ZT ?_ | refine ZF ?_ | refine Zc ?_ | refine XO_gU (hk := ?_))
  refine X_conv (fun _ h => SL_nilSl eOA h) ?_
  refine X_conv (fun _ h => SL_nilSl eOS h) ?_
  refine X_conv (fun _ h => SL_nilSl eMK h) ?_
  refine X_conv (fun _ h => SL_nilSl eML h) ?_
  refine X_loop (ι := Nat × ApZ) (fun y => y.1 ≤ xs.length ∧ ApJ y.1 y.1 y.2)
    (fun y => [(0, .slice a0 xs.length c0), (4, .pointer (some ⟨s, 0, none⟩)), (5, .pointer (some ⟨r, 0, none⟩)), (6, .slice y.2.a1 y.2.bs.length y.2.c1), (7, .slice y.2.a2 y.2.bs.length y.2.c2), (8, .slice y.2.a3 y.2.ms.length y.2.c3), (9, .slice y.2.a4 y.2.ms.length y.2.c4), (10, .int .i64 (y.1 : Int))])
    (fun y => [Sl eOA y.2.a1 y.2.c1 y.2.bs, Sl eOS y.2.a2 y.2.c2 y.2.bs, Sl eMK y.2.a3 y.2.c3 y.2.ms, Sl eML y.2.a4 y.2.c4 y.2.ms, Rg r s 3 y.2.S, Ck s sb y.2.C, Spc sb 600 y.2.m, base W]) (fun y => xs.length - y.1) (0, ⟨⟨600, [(0, 600)], fun _ => [], 0⟩, m0, emptySh, [], [], none, 0, none, 0, none, 0, none, 0⟩) ⟨Nat.zero_le _, hJ0⟩ ?_ (by ((try simp only [List.cons_append, List.nil_append]); repeat (first | exact ent_refl | refine ent_take (by repeat (first | exact Find.here | apply Find.there)) ?_ | refine ent_drop ?_))) ?_
  · (repeat (first | exact Env.sub_nil _ | refine Env.sub_cons rfl ?_))
  clear hJ0
  rintro ⟨i, C, m, S, bs, ms, a1, c1, a2, c2, a3, c3, a4, c4⟩ ⟨hi, hJ⟩
  dsimp only at hi hJ ⊢
  have hlb : bs.length ≤ i := hJ.lb
  have hlm : ms.length ≤ i := hJ.lm
  repeat (first | refine Zq ?_ | refine Zs ?_ | refine ZT ?_ | refine ZF ?_ | refine Zc ?_ | refine XO_gU (hk := ?_))
  refine X_cond rfl (fun hc => ?_) (fun hc => ?_) <;> simp only [decide_eq_true_eq, decide_eq_false_iff_not] at hc
  case refine_2.refine_2.refine_2 =>
    repeat (first | refine Zq ?_ | refine Zs ?_ | refine ZT ?_ | refine ZF ?_ | refine Zc ?_ | refine XO_gU (hk := ?_))
    refine XE_ret (.inl rfl) (tells_tmps rfl rfl) ⟨_, ⟨rfl, rfl⟩, (by simp only [List.cons_append, List.nil_append]; refine ent_take (by (repeat (first | exact Find.here | apply Find.there))) ?_; repeat (first | exact ent_refl | refine ent_drop ?_))⟩
  have hil : i < xs.length := by omega
  have hget : xs[i]? = some xs[i] := List.getElem?_eq_getElem hil
  have hx := hok xs[i] (List.getElem_mem hil)
  generalize xs[i] = x at hget hx
  have hsz := hx.sz
  have hk := hx.k
  have hab := al2_bd hk.1
  refine X_view (A := base W) (by (repeat (first | exact Find.here | apply Find.there))) V1 (by omega) ?_
  rintro vb vo rfl
  repeat (first | refine Zq ?_ | refine Zs ?_ | refine ZT ?_ | refine ZF ?_ | refine Zc ?_ | refine XO_gU (hk := ?_))
  refine XO_dv (dv_alloc (row := [.int .u8 0, .bool false, .int .u64 0, .int .u64 0, .int .u8 0, .int .i64 0, .int .i64 0, .int .u64 0, .int .u64 0, .int .u64 0])) (hk := ?_)
  rintro _ _ ⟨xb, rfl, rfl⟩
  refine XO_dv0 (dv_storeW (vs := [.int .u8 x.d, .bool x.w, .int .u64 x.sz, .int .u64 x.al, .int .u8 x.k, .int .i64 x.mc, .int .i64 x.ml, .int .u64 x.at_, .int .u64 x.ob, .int .u64 x.pd])) (hk := ?_)
  rintro _ _ rfl
  clear hget
  refine XO_nil ?_
  refine XE_code ?_
  refine X_seq ?_
  refine X_region ?_
  (repeat (first | refine Zq ?_ | refine Zs ?_ | refine ZT ?_ | refine ZF ?_ | refine XO_gU (hk := ?_)))
  refine XO_nil ?_
  refine XE_code ?_
  refine X_seq ?_
  refine X_join (ι := ApZ) (fun z => ApJ (i + 1) i z) (fun z => [(0, .slice (some ⟨vb, vo, none⟩) xs.length c0), (4, .pointer (some ⟨s, 0, none⟩)), (5, .pointer (some ⟨r, 0, none⟩)), (6, .slice z.a1 z.bs.length z.c1), (7, .slice z.a2 z.bs.length z.c2), (8, .slice z.a3 z.ms.length z.c3), (9, .slice z.a4 z.ms.length z.c4), (10, .int .i64 (i : Int)), (11, .pointer (some ⟨xb, 0, none⟩)), (12, .int .i64 (x.sz % 5000 + 1))]) (fun z => [pt xb (.cells [.int .u8 x.d, .bool x.w, .int .u64 x.sz, .int .u64 x.al, .int .u8 x.k, .int .i64 x.mc, .int .i64 x.ml, .int .u64 x.at_, .int .u64 x.ob, .int .u64 x.pd].toArray 35 (0, 0)), Sl eOA z.a1 z.c1 z.bs, Sl eOS z.a2 z.c2 z.bs, Sl eMK z.a3 z.c3 z.ms, Sl eML z.a4 z.c4 z.ms, Rg r s 3 z.S, Ck s sb z.C, Spc sb 600 z.m, base W]) ?_ ?_
  · repeat (first | refine Zq ?_ | refine Zs ?_ | refine ZT ?_ | refine ZF ?_ | refine Zc ?_ | refine XO_gU (hk := ?_))
    refine X_cond rfl (fun _ => ?_) (fun _ => ?_)
    · obtain ⟨C', m', S', at_, e, har⟩ := AR.ex 600 C m S 3 (x.sz % 5000 + 1) (al2 x.k)
      have hR' := har.inv hJ.R (by decide) (by omega) (by omega) (by omega)
      have hgr := fun s0 (hg : Grow s0 S) => har.grow hJ.R (by decide) (by omega) (by omega) (by omega) hg
      have hoa := ob_alloc (n := x.sz % 5000 + 1) (k := x.k) (i := (i : Int)) hJ.R (by decide) (by omega) (by omega) hk.1 (by omega) hJ.I har
      repeat (first | refine Zq ?_ | refine Zs ?_ | refine ZT ?_ | refine ZF ?_ | refine Zc ?_ | refine XO_gU (hk := ?_))
      refine XO_pv (pv_shlN (b := x.k % 13) (hw := al2_shl hk.1)) (hk := ?_)
      repeat (first | refine Zq ?_ | refine Zs ?_ | refine ZT ?_ | refine ZF ?_ | refine Zc ?_ | refine XO_gU (hk := ?_))
      refine XO_call (ralloc_spec r s sb hJ.R (by decide) (by omega) (by omega) (by omega) (by omega) har) (hk := ?_)
      rintro _ _ ⟨rfl, rfl⟩
      repeat (first | refine Zq ?_ | refine Zs ?_ | refine ZT ?_ | refine ZF ?_ | refine Zc ?_ | refine XO_gU (hk := ?_))
      rcases hoa with ⟨he, rfl, rfl⟩ | ⟨rfl, hal, hat0, hat1, hz, hI2, hR2⟩
      · refine X_cond rfl (fun _ => ?_) (fun h => absurd (by simpa using h) he)
        repeat (first | refine Zq ?_ | refine Zs ?_ | refine ZT ?_ | refine ZF ?_ | refine Zc ?_ | refine XO_gU (hk := ?_))
        exact X_round (i + 1, ⟨C', m', S', bs, ms, a1, c1, a2, c2, a3, c3, a4, c4⟩) ⟨by show i + 1 ≤ xs.length; omega, ⟨hR', hJ.I, hJ.M, by show bs.length ≤ i + 1; omega, by show ms.length ≤ i + 1; omega⟩⟩ (by show xs.length - (i + 1) < xs.length - i; omega) (by (repeat (first | exact Env.sub_nil _ | refine Env.sub_cons rfl ?_))) (by ((try simp only [List.cons_append, List.nil_append]); repeat (first | exact ent_nil | exact ent_refl | refine ent_take (by repeat (first | exact Find.here | apply Find.there)) ?_ | refine ent_drop ?_)))
      refine X_cond rfl (fun h => by cases h) (fun _ => ?_)
      have hb600 : (600 : Int) * 4096 = 2457600 := by decide
      have sl := load_ok sb (P := 600) (m := m') (at_ := at_) (n := x.sz % 5000 + 1) (by decide) (by decide) hat0 (by omega) hat1 (by omega)
      rw [hz] at sl
      generalize hnn : (x.sz % 5000 + 1).toNat = nn at *
      have hnn2 : (nn : Int) = x.sz % 5000 + 1 := by omega
      repeat (first | refine Zq ?_ | refine Zs ?_ | refine ZT ?_ | refine ZF ?_ | refine Zc ?_ | refine XO_gU (hk := ?_))
      refine XO_call (kspace_spec s sb C') (hk := ?_)
      rintro _ _ ⟨rfl, rfl⟩
      repeat (first | refine Zq ?_ | refine Zs ?_ | refine ZT ?_ | refine ZF ?_ | refine Zc ?_ | refine XO_gU (hk := ?_))
      refine XO_call sl (hk := ?_)
      rintro _ _ ⟨ob, rfl, rfl⟩
      repeat (first | refine Zq ?_ | refine Zs ?_ | refine ZT ?_ | refine ZF ?_ | refine Zc ?_ | refine XO_gU (hk := ?_))
      refine XO_known false (hb := by simp [hal]) (hk := ?_)
      repeat (first | refine Zq ?_ | refine Zs ?_ | refine ZT ?_ | refine ZF ?_ | refine Zc ?_ | refine XO_gU (hk := ?_))
      refine XO_call (zero_spec (Sl (eI .u8) (some ⟨ob, 0, none⟩) nn (List.replicate nn 0)) (some ⟨ob, 0, none⟩) nn nn (by omega) Sl.view) (hk := ?_)
      rintro _ _ ⟨rfl, rfl⟩
      repeat (first | refine Zq ?_ | refine Zs ?_ | refine ZT ?_ | refine ZF ?_ | refine Zc ?_ | refine XO_gU (hk := ?_))
      refine X_cond rfl (fun h => by cases h) (fun _ => ?_)
      repeat (first | refine Zq ?_ | refine Zs ?_ | refine ZT ?_ | refine ZF ?_ | refine Zc ?_ | refine XO_gU (hk := ?_))
      refine XO_call (kspace_spec s sb C') (hk := ?_)
      rintro _ _ ⟨rfl, rfl⟩
      repeat (first | refine Zq ?_ | refine Zs ?_ | refine ZT ?_ | refine ZF ?_ | refine Zc ?_ | refine XO_gU (hk := ?_))
      have sf := fill_spec (x.sz % 5000 + 1) (i : Int) (by omega) (by omega) (by omega) (by omega)
      rw [hnn] at sf
      refine XO_call sf (hk := ?_)
      rintro _ _ ⟨rfl, rfl⟩
      repeat (first | refine Zq ?_ | refine Zs ?_ | refine ZT ?_ | refine ZF ?_ | refine Zc ?_ | refine XO_gU (hk := ?_))
      have hfl := fillB_len nn (i : Int)
      refine XO_dv (dv_bytesOfC (fillB nn (i : Int)) (hb := asB_back (fillB_byt _ _))) (hk := ?_)
      rintro _ _ ⟨fb, fc, hfc, rfl, rfl⟩
      repeat (first | refine Zq ?_ | refine Zs ?_ | refine ZT ?_ | refine ZF ?_ | refine Zc ?_ | refine XO_gU (hk := ?_))
      refine XO_call (store_ok (Frz fb (fillB nn (i : Int))) sb fc (some ⟨fb, 0, none⟩) (P := 600) (m := ldM m' at_ (x.sz % 5000 + 1)) (at_ := at_) Frz.view (fillB_byt _ _) hfc (by decide) (by decide) hat0 (by omega) (by omega)) (hk := ?_)
      rintro _ _ ⟨rfl, rfl⟩
      repeat (first | refine Zq ?_ | refine Zs ?_ | refine ZT ?_ | refine ZF ?_ | refine Zc ?_ | refine XO_gU (hk := ?_))
      refine XO_lit (E' := eOA) [(at_, x.sz % 5000 + 1, (i : Int))] (hk := ?_)
      intro lb
      repeat (first | refine Zq ?_ | refine Zs ?_ | refine ZT ?_ | refine ZF ?_ | refine Zc ?_ | refine XO_gU (hk := ?_))
      refine XO_dv (dv_append (E' := eOA) (xs := bs) (ys := [(at_, x.sz % 5000 + 1, (i : Int))]) (hv := Sl.view) (hb := by simp; omega)) (hk := ?_)
      rintro _ _ ⟨b1, d1, rfl, rfl⟩
      repeat (first | refine Zq ?_ | refine Zs ?_ | refine ZT ?_ | refine ZF ?_ | refine Zc ?_ | refine XO_gU (hk := ?_))
      refine XO_lit (E' := eOS) [(at_, x.sz % 5000 + 1, (i : Int))] (hk := ?_)
      intro lb2
      repeat (first | refine Zq ?_ | refine Zs ?_ | refine ZT ?_ | refine ZF ?_ | refine Zc ?_ | refine XO_gU (hk := ?_))
      refine XO_dv (dv_append (E' := eOS) (xs := bs) (ys := [(at_, x.sz % 5000 + 1, (i : Int))]) (hv := Sl.view) (hb := by simp; omega)) (hk := ?_)
      rintro _ _ ⟨b2, d2, rfl, rfl⟩
      repeat (first | refine Zq ?_ | refine Zs ?_ | refine ZT ?_ | refine ZF ?_ | refine Zc ?_ | refine XO_gU (hk := ?_))
      exact X_meet ⟨C', stM (ldM m' at_ (x.sz % 5000 + 1)) at_ (fillB nn (i : Int)), S', bs ++ [(at_, x.sz % 5000 + 1, (i : Int))], ms, b1, d1, b2, d2, a3, c3, a4, c4⟩ ⟨hR2, hI2, mk_alloc hJ.M hgr, by simp; omega, hJ.lm⟩ (by (repeat (first | exact Env.sub_nil _ | refine Env.sub_cons rfl ?_))) (by ((try simp only [List.cons_append, List.nil_append]); repeat (first | exact ent_nil | exact ent_refl | refine ent_take (by repeat (first | exact Find.here | apply Find.there)) ?_ | refine ent_drop ?_)))
    · repeat (first | refine Zq ?_ | refine Zs ?_ | refine ZT ?_ | refine ZF ?_ | refine Zc ?_ | refine XO_gU (hk := ?_))
      exact X_meet ⟨C, m, S, bs, ms, a1, c1, a2, c2, a3, c3, a4, c4⟩ hJ.up (by (repeat (first | exact Env.sub_nil _ | refine Env.sub_cons rfl ?_))) (by ((try simp only [List.cons_append, List.nil_append]); repeat (first | exact ent_nil | exact ent_refl | refine ent_take (by repeat (first | exact Find.here | apply Find.there)) ?_ | refine ent_drop ?_)))
  clear hJ hlb hlm
  clear C m S bs ms a1 c1 a2 c2 a3 c3 a4 c4
  rintro ⟨C, m, S, bs, ms, a1, c1, a2, c2, a3, c3, a4, c4⟩ hJ
  dsimp only at hJ ⊢
  have hlb : bs.length ≤ i + 1 := hJ.lb
  have hlm : ms.length ≤ i := hJ.lm
  refine X_seq ?_
  refine X_join (ι := ApZ) (fun z => ApJ (i + 1) (i + 1) z) (fun z => [(0, .slice (some ⟨vb, vo, none⟩) xs.length c0), (4, .pointer (some ⟨s, 0, none⟩)), (5, .pointer (some ⟨r, 0, none⟩)), (6, .slice z.a1 z.bs.length z.c1), (7, .slice z.a2 z.bs.length z.c2), (8, .slice z.a3 z.ms.length z.c3), (9, .slice z.a4 z.ms.length z.c4), (10, .int .i64 (i : Int)), (11, .pointer (some ⟨xb, 0, none⟩)), (12, .int .i64 (x.sz % 5000 + 1))]) (fun z => [pt xb (.cells [.int .u8 x.d, .bool x.w, .int .u64 x.sz, .int .u64 x.al, .int .u8 x.k, .int .i64 x.mc, .int .i64 x.ml, .int .u64 x.at_, .int .u64 x.ob, .int .u64 x.pd].toArray 35 (0, 0)), Sl eOA z.a1 z.c1 z.bs, Sl eOS z.a2 z.c2 z.bs, Sl eMK z.a3 z.c3 z.ms, Sl eML z.a4 z.c4 z.ms, Rg r s 3 z.S, Ck s sb z.C, Spc sb 600 z.m, base W]) ?_ ?_
  · repeat (first | refine Zq ?_ | refine Zs ?_ | refine ZT ?_ | refine ZF ?_ | refine Zc ?_ | refine XO_gU (hk := ?_))
    refine X_cond rfl (fun _ => ?_) (fun _ => ?_)
    · have hlen := hJ.R.len
      repeat (first | refine Zq ?_ | refine Zs ?_ | refine ZT ?_ | refine ZF ?_ | refine Zc ?_ | refine XO_gU (hk := ?_))
      refine XO_call (rmark_spec r s 3 S hlen.1 hlen.2) (hk := ?_)
      rintro _ _ ⟨rfl, rfl⟩
      repeat (first | refine Zq ?_ | refine Zs ?_ | refine ZT ?_ | refine ZF ?_ | refine Zc ?_ | refine XO_gU (hk := ?_))
      refine XO_lit (E' := eMK) [(S, bs.length)] (hk := ?_)
      intro lb
      repeat (first | refine Zq ?_ | refine Zs ?_ | refine ZT ?_ | refine ZF ?_ | refine Zc ?_ | refine XO_gU (hk := ?_))
      refine XO_dv (dv_append (E' := eMK) (xs := ms) (ys := [(S, bs.length)]) (hv := Sl.view) (hb := by simp; omega)) (hk := ?_)
      rintro _ _ ⟨b3, d3, rfl, rfl⟩
      repeat (first | refine Zq ?_ | refine Zs ?_ | refine ZT ?_ | refine ZF ?_ | refine Zc ?_ | refine XO_gU (hk := ?_))
      refine XO_lit (E' := eML) [(S, bs.length)] (hk := ?_)
      intro lb2
      repeat (first | refine Zq ?_ | refine Zs ?_ | refine ZT ?_ | refine ZF ?_ | refine Zc ?_ | refine XO_gU (hk := ?_))
      refine XO_dv (dv_append (E' := eML) (xs := ms) (ys := [(S, bs.length)]) (hv := Sl.view) (hb := by simp; omega)) (hk := ?_)
      rintro _ _ ⟨b4, d4, rfl, rfl⟩
      repeat (first | refine Zq ?_ | refine Zs ?_ | refine ZT ?_ | refine ZF ?_ | refine Zc ?_ | refine XO_gU (hk := ?_))
      exact X_meet ⟨C, m, S, bs, ms ++ [(S, bs.length)], a1, c1, a2, c2, b3, d3, b4, d4⟩ ⟨hJ.R, hJ.I, mk_mark hJ.R hJ.I hJ.M, hlb, by simp; omega⟩ (by (repeat (first | exact Env.sub_nil _ | refine Env.sub_cons rfl ?_))) (by ((try simp only [List.cons_append, List.nil_append]); repeat (first | exact ent_nil | exact ent_refl | refine ent_take (by repeat (first | exact Find.here | apply Find.there)) ?_ | refine ent_drop ?_)))
    · repeat (first | refine Zq ?_ | refine Zs ?_ | refine ZT ?_ | refine ZF ?_ | refine Zc ?_ | refine XO_gU (hk := ?_))
      exact X_meet ⟨C, m, S, bs, ms, a1, c1, a2, c2, a3, c3, a4, c4⟩ hJ.upj (by (repeat (first | exact Env.sub_nil _ | refine Env.sub_cons rfl ?_))) (by ((try simp only [List.cons_append, List.nil_append]); repeat (first | exact ent_nil | exact ent_refl | refine ent_take (by repeat (first | exact Find.here | apply Find.there)) ?_ | refine ent_drop ?_)))
  clear hJ hlb hlm
  clear C m S bs ms a1 c1 a2 c2 a3 c3 a4 c4
  rintro ⟨C, m, S, bs, ms, a1, c1, a2, c2, a3, c3, a4, c4⟩ hJ
  dsimp only at hJ ⊢
  have hlb : bs.length ≤ i + 1 := hJ.lb
  have hlm : ms.length ≤ i + 1 := hJ.lm
  refine X_seq ?_
  refine X_join (ι := ApZ) (fun z => ApJ (i + 1) (i + 1) z) (fun z => [(0, .slice (some ⟨vb, vo, none⟩) xs.length c0), (4, .pointer (some ⟨s, 0, none⟩)), (5, .pointer (some ⟨r, 0, none⟩)), (6, .slice z.a1 z.bs.length z.c1), (7, .slice z.a2 z.bs.length z.c2), (8, .slice z.a3 z.ms.length z.c3), (9, .slice z.a4 z.ms.length z.c4), (10, .int .i64 (i : Int)), (11, .pointer (some ⟨xb, 0, none⟩)), (12, .int .i64 (x.sz % 5000 + 1))]) (fun z => [pt xb (.cells [.int .u8 x.d, .bool x.w, .int .u64 x.sz, .int .u64 x.al, .int .u8 x.k, .int .i64 x.mc, .int .i64 x.ml, .int .u64 x.at_, .int .u64 x.ob, .int .u64 x.pd].toArray 35 (0, 0)), Sl eOA z.a1 z.c1 z.bs, Sl eOS z.a2 z.c2 z.bs, Sl eMK z.a3 z.c3 z.ms, Sl eML z.a4 z.c4 z.ms, Rg r s 3 z.S, Ck s sb z.C, Spc sb 600 z.m, base W]) ?_ ?_
  · repeat (first | refine Zq ?_ | refine Zs ?_ | refine ZT ?_ | refine ZF ?_ | refine Zc ?_ | refine XO_gU (hk := ?_))
    refine XO_either (hT := fun h5 => ?_) (hF := fun h5 => ?_)
    · repeat (first | refine Zq ?_ | refine Zs ?_ | refine ZT ?_ | refine ZF ?_ | refine Zc ?_ | refine XO_gU (hk := ?_))
      refine X_cond rfl (fun h6 => ?_) (fun h6 => ?_) <;> simp only [decide_eq_true_eq, decide_eq_false_iff_not] at h6
      · have hml0 : 0 < ms.length := by omega
        have hm1 : 0 ≤ x.k % (ms.length : Int) := Int.emod_nonneg _ (by omega)
        have hm2 : x.k % (ms.length : Int) < (ms.length : Int) := Int.emod_lt_of_pos _ (by omega)
        have hkl : (x.k % (ms.length : Int)).toNat < ms.length := by omega
        have hgk : ms[(x.k % (ms.length : Int)).toNat]? = some ms[(x.k % (ms.length : Int)).toNat] := List.getElem?_eq_getElem hkl
        have hM2 := mk_rew hJ.M hkl
        obtain ⟨q1, q2, q3, q4, q5⟩ := hJ.M.one _ (List.getElem_mem hkl)
        generalize ms[(x.k % (ms.length : Int)).toNat] = q at hgk hM2 q1 q2 q3 q4 q5
        have q2' : q.2 ≤ bs.length := q2
        obtain ⟨hf1, hf2⟩ := grow_fits q1 q4
        have hqb := top_bd q5
        have hs4 := rrew_ok r s sb (ob := q.1.obj) (pd := q.1.pad) hJ.R hf1 hqb.1 hqb.2.1
        have hr4 := rew_inv (ob := q.1.obj) (pd := q.1.pad) hJ.R hf1 hqb.1 q5.obj q5.pad
        rw [hf2] at hs4 hr4
        have hI4 := ob_rew (len := q.2) hJ.R hJ.I q1 q3 hr4
        generalize putsC C S q.1.parts.length q.1.larges.length = C4 at hs4 hr4
        generalize rewM 600 m S q.1.parts.length q.1.larges.length (topAt q.1) = m4 at hs4 hr4 hI4
        refine X_fact (A := Sl eOA a1 c1 bs) (by (repeat (first | exact Find.here | apply Find.there))) Sl.cap (fun hcap1 => ?_)
        refine X_fact (A := Sl eOS a2 c2 bs) (by (repeat (first | exact Find.here | apply Find.there))) Sl.cap (fun hcap2 => ?_)
        refine X_fact (A := Sl eMK a3 c3 ms) (by (repeat (first | exact Find.here | apply Find.there))) Sl.cap (fun hcap3 => ?_)
        refine X_fact (A := Sl eML a4 c4 ms) (by (repeat (first | exact Find.here | apply Find.there))) Sl.cap (fun hcap4 => ?_)
        refine X_slopen (E' := eMK) (a := a3) (c := c3) (xs := ms) (by (repeat (first | exact Find.here | apply Find.there))) hml0 ?_
        rintro b3 o3 rfl
        refine X_slopen (E' := eML) (a := a4) (c := c4) (xs := ms) (by (repeat (first | exact Find.here | apply Find.there))) hml0 ?_
        rintro b4 o4 rfl
        repeat (first | refine Zq ?_ | refine Zs ?_ | refine ZT ?_ | refine ZF ?_ | refine Zc ?_ | refine XO_gU (hk := ?_))
        refine XO_call hs4 (hk := ?_)
        rintro _ _ ⟨rfl, rfl⟩
        repeat (first | refine Zq ?_ | refine Zs ?_ | refine ZT ?_ | refine ZF ?_ | refine Zc ?_ | refine XO_gU (hk := ?_))
        refine X_cond rfl (fun h => by cases h) (fun _ => ?_)
        have hq1 : ((x.k % (ms.length : Int)) + 1).toNat = (x.k % (ms.length : Int)).toNat + 1 := by omega
        repeat (first | refine Zq ?_ | refine Zs ?_ | refine ZT ?_ | refine ZF ?_ | refine Zc ?_ | refine XO_gU (hk := ?_))
        have e1 : (bs.take q.2).length = q.2 := by rw [List.length_take]; omega
        have e2 : (ms.take ((x.k % (ms.length : Int)).toNat + 1)).length = (x.k % (ms.length : Int)).toNat + 1 := by rw [List.length_take]; omega
        refine XE_reval 8 (.slice (some ⟨b3, o3, none⟩) ((x.k % (ms.length : Int)).toNat + 1) c3) ?_ (hv := by rw [← hq1])
        refine XE_reval 9 (.slice (some ⟨b4, o4, none⟩) ((x.k % (ms.length : Int)).toNat + 1) c4) ?_ (hv := by rw [← hq1])
        refine XE_conv (fun _ => SL_take (E' := eOA) (a := a1) (c := c1) (xs := bs) q.2 (by (repeat (first | exact Find.here | apply Find.there)))) ?_
        refine XE_conv (fun _ => SL_take (E' := eOS) (a := a2) (c := c2) (xs := bs) q.2 (by (repeat (first | exact Find.here | apply Find.there)))) ?_
        refine XE_conv (fun _ => SL_take (E' := eMK) (a := some ⟨b3, o3, none⟩) (c := c3) (xs := ms) ((x.k % (ms.length : Int)).toNat + 1) (by (repeat (first | exact Find.here | apply Find.there)))) ?_
        refine XE_conv (fun _ => SL_take (E' := eML) (a := some ⟨b4, o4, none⟩) (c := c4) (xs := ms) ((x.k % (ms.length : Int)).toNat + 1) (by (repeat (first | exact Find.here | apply Find.there)))) ?_
        exact X_meet ⟨C4, m4, q.1, bs.take q.2, ms.take ((x.k % (ms.length : Int)).toNat + 1), a1, c1, a2, c2, some ⟨b3, o3, none⟩, c3, some ⟨b4, o4, none⟩, c4⟩ ⟨hr4, hI4, hM2, by rw [e1]; omega, by rw [e2]; omega⟩ (by dsimp only; rw [e1, e2]; (repeat (first | exact Env.sub_nil _ | refine Env.sub_cons rfl ?_))) (by ((try simp only [List.cons_append, List.nil_append]); repeat (first | exact ent_nil | exact ent_refl | refine ent_take (by repeat (first | exact Find.here | apply Find.there)) ?_ | refine ent_drop ?_)))
      · repeat (first | refine Zq ?_ | refine Zs ?_ | refine ZT ?_ | refine ZF ?_ | refine Zc ?_ | refine XO_gU (hk := ?_))
        exact X_meet ⟨C, m, S, bs, ms, a1, c1, a2, c2, a3, c3, a4, c4⟩ hJ (by (repeat (first | exact Env.sub_nil _ | refine Env.sub_cons rfl ?_))) (by ((try simp only [List.cons_append, List.nil_append]); repeat (first | exact ent_nil | exact ent_refl | refine ent_take (by repeat (first | exact Find.here | apply Find.there)) ?_ | refine ent_drop ?_)))
    · repeat (first | refine Zq ?_ | refine Zs ?_ | refine ZT ?_ | refine ZF ?_ | refine Zc ?_ | refine XO_gU (hk := ?_))
      refine X_cond rfl (fun h => by cases h) (fun _ => ?_)
      repeat (first | refine Zq ?_ | refine Zs ?_ | refine ZT ?_ | refine ZF ?_ | refine Zc ?_ | refine XO_gU (hk := ?_))
      exact X_meet ⟨C, m, S, bs, ms, a1, c1, a2, c2, a3, c3, a4, c4⟩ hJ (by (repeat (first | exact Env.sub_nil _ | refine Env.sub_cons rfl ?_))) (by ((try simp only [List.cons_append, List.nil_append]); repeat (first | exact ent_nil | exact ent_refl | refine ent_take (by repeat (first | exact Find.here | apply Find.there)) ?_ | refine ent_drop ?_)))
  clear hJ hlb hlm
  clear C m S bs ms a1 c1 a2 c2 a3 c3 a4 c4
  rintro ⟨C, m, S, bs, ms, a1, c1, a2, c2, a3, c3, a4, c4⟩ hJ
  dsimp only at hJ ⊢
  have hlb : bs.length ≤ i + 1 := hJ.lb
  have hlm : ms.length ≤ i + 1 := hJ.lm
  refine X_seq ?_
  refine X_join (ι := ApZ) (fun z => ApJ (i + 1) (i + 1) z) (fun z => [(0, .slice (some ⟨vb, vo, none⟩) xs.length c0), (4, .pointer (some ⟨s, 0, none⟩)), (5, .pointer (some ⟨r, 0, none⟩)), (6, .slice z.a1 z.bs.length z.c1), (7, .slice z.a2 z.bs.length z.c2), (8, .slice z.a3 z.ms.length z.c3), (9, .slice z.a4 z.ms.length z.c4), (10, .int .i64 (i : Int)), (11, .pointer (some ⟨xb, 0, none⟩)), (12, .int .i64 (x.sz % 5000 + 1))]) (fun z => [pt xb (.cells [.int .u8 x.d, .bool x.w, .int .u64 x.sz, .int .u64 x.al, .int .u8 x.k, .int .i64 x.mc, .int .i64 x.ml, .int .u64 x.at_, .int .u64 x.ob, .int .u64 x.pd].toArray 35 (0, 0)), Sl eOA z.a1 z.c1 z.bs, Sl eOS z.a2 z.c2 z.bs, Sl eMK z.a3 z.c3 z.ms, Sl eML z.a4 z.c4 z.ms, Rg r s 3 z.S, Ck s sb z.C, Spc sb 600 z.m, base W]) ?_ ?_
  · repeat (first | refine Zq ?_ | refine Zs ?_ | refine ZT ?_ | refine ZF ?_ | refine Zc ?_ | refine XO_gU (hk := ?_))
    refine X_cond rfl (fun _ => ?_) (fun _ => ?_)
    · have hf0 : fitsS S 0 0 0 = true := by
        unfold fitsS
        rw [if_neg (by omega), if_pos rfl]
        rfl
      have hRa := rew_inv (ob := 0) (pd := 0) hJ.R hf0 (by decide) (by decide) (by decide)
      rw [show setTop (cutS S 0 0) 0 0 0 = emptySh from rfl] at hRa
      repeat (first | refine Zq ?_ | refine Zs ?_ | refine ZT ?_ | refine ZF ?_ | refine Zc ?_ | refine XO_gU (hk := ?_))
      refine XO_call (rreset_spec r s sb hJ.R) (hk := ?_)
      rintro _ _ ⟨rfl, rfl⟩
      repeat (first | refine Zq ?_ | refine Zs ?_ | refine ZT ?_ | refine ZF ?_ | refine Zc ?_ | refine XO_gU (hk := ?_))
      refine XE_conv (fun _ h => SL_nilSl eOA h) ?_
      refine XE_conv (fun _ h => SL_nilSl eOS h) ?_
      refine XE_conv (fun _ h => SL_nilSl eMK h) ?_
      refine XE_conv (fun _ h => SL_nilSl eML h) ?_
      exact X_meet ⟨putsC C S 0 0, rewM 600 m S 0 0 0, emptySh, [], [], none, 0, none, 0, none, 0, none, 0⟩ ⟨hRa, ⟨(fun b hb => by cases hb), (fun b hb => by cases hb), (fun b hb => by cases hb), List.Pairwise.nil, (fun b hb => by cases hb), rfl⟩, ⟨(fun b hb => by cases hb), List.Pairwise.nil⟩, Nat.zero_le _, Nat.zero_le _⟩ (by (repeat (first | exact Env.sub_nil _ | refine Env.sub_cons rfl ?_))) (by ((try simp only [List.cons_append, List.nil_append]); repeat (first | exact ent_nil | exact ent_refl | refine ent_take (by repeat (first | exact Find.here | apply Find.there)) ?_ | refine ent_drop ?_)))
    · repeat (first | refine Zq ?_ | refine Zs ?_ | refine ZT ?_ | refine ZF ?_ | refine Zc ?_ | refine XO_gU (hk := ?_))
      exact X_meet ⟨C, m, S, bs, ms, a1, c1, a2, c2, a3, c3, a4, c4⟩ hJ (by (repeat (first | exact Env.sub_nil _ | refine Env.sub_cons rfl ?_))) (by ((try simp only [List.cons_append, List.nil_append]); repeat (first | exact ent_nil | exact ent_refl | refine ent_take (by repeat (first | exact Find.here | apply Find.there)) ?_ | refine ent_drop ?_)))
  clear hJ hlb hlm
  clear C m S bs ms a1 c1 a2 c2 a3 c3 a4 c4
  rintro ⟨C, m, S, bs, ms, a1, c1, a2, c2, a3, c3, a4, c4⟩ hJ
  dsimp only at hJ ⊢
  have hlb : bs.length ≤ i + 1 := hJ.lb
  have hlm : ms.length ≤ i + 1 := hJ.lm
  have hR0 : RInv 600 (i + 1) 3 C m.f S [] := hJ.R
  have hI : ObI m.f S bs := hJ.I
  have hnl := hI.nl
  have hbd := hR0.bd
  have hlen := hR0.len
  repeat (first | refine Zq ?_ | refine Zs ?_ | refine ZT ?_ | refine ZF ?_ | refine Zc ?_ | refine XO_gU (hk := ?_))
  refine XO_call (rchunks_spec r s sb hR0) (hk := ?_)
  rintro _ _ ⟨ca, cc, da, dc, rfl, rfl⟩
  have hmf : (walkM 600 (walkM 600 m (S.parts.map runP)) S.larges).f = m.f := by rw [walkM_f, walkM_f]
  generalize walkM 600 (walkM 600 m (S.parts.map runP)) S.larges = m1 at hmf ⊢
  rw [hnl]
  repeat (first | refine Zq ?_ | refine Zs ?_ | refine ZT ?_ | refine ZF ?_ | refine Zc ?_ | refine XO_gU (hk := ?_))
  refine XO_dv (dv_append (E' := eRun) (xs := (S.parts.map runP).reverse) (ys := ([] : List (Int × Int)).reverse) (hv := Sl.view) (hb := by simp; omega)) (hk := ?_)
  rintro _ _ ⟨sa, sc, rfl, rfl⟩
  rw [List.reverse_nil, List.append_nil]
  have hshm : ∀ p ∈ S.parts, runP p ∈ (S.parts.map runP).reverse := fun p hp => List.mem_reverse.2 (List.mem_map.2 ⟨p, hp, rfl⟩)
  have hshb := bd_revA hbd.1
  have hshl : (S.parts.map runP).reverse.length ≤ 1048576 := by rw [List.length_reverse, List.length_map]; exact hlen.1
  generalize (S.parts.map runP).reverse = sh at hshm hshb hshl ⊢
  repeat (first | refine Zq ?_ | refine Zs ?_ | refine ZT ?_ | refine ZF ?_ | refine Zc ?_ | refine XO_gU (hk := ?_))
  refine X_loop (ι := Nat × Mm) (fun y => y.1 ≤ bs.length ∧ y.2.f = m.f)
    (fun y => [(0, .slice (some ⟨vb, vo, none⟩) xs.length c0), (4, .pointer (some ⟨s, 0, none⟩)), (5, .pointer (some ⟨r, 0, none⟩)), (6, .slice a1 bs.length c1), (7, .slice a2 bs.length c2), (8, .slice a3 ms.length c3), (9, .slice a4 ms.length c4), (10, .int .i64 (i : Int)), (19, .slice sa sh.length sc), (21, .int .i64 (y.1 : Int))])
    (fun y => [Sl eRun sa sc sh, Sl eOA a1 c1 bs, Sl eOS a2 c2 bs, Sl eMK a3 c3 ms, Sl eML a4 c4 ms, Rg r s 3 S, Ck s sb C, Spc sb 600 y.2, base W]) (fun y => bs.length - y.1) (0, m1) ⟨Nat.zero_le _, hmf⟩ ?_ (by ((try simp only [List.cons_append, List.nil_append]); repeat (first | exact ent_nil | exact ent_refl | refine ent_take (by repeat (first | exact Find.here | apply Find.there)) ?_ | refine ent_drop ?_))) ?_
  · (repeat (first | exact Env.sub_nil _ | refine Env.sub_cons rfl ?_))
  clear hmf
  rintro ⟨k2, mm⟩ ⟨hk2, hmf⟩
  dsimp only at hk2 hmf ⊢
  repeat (first | refine Zq ?_ | refine Zs ?_ | refine ZT ?_ | refine ZF ?_ | refine Zc ?_ | refine XO_gU (hk := ?_))
  refine X_cond rfl (fun hc2 => ?_) (fun hc2 => ?_) <;> simp only [decide_eq_true_eq, decide_eq_false_iff_not] at hc2
  case refine_2 =>
    obtain rfl : k2 = bs.length := by omega
    repeat (first | refine Zq ?_ | refine Zs ?_ | refine ZT ?_ | refine ZF ?_ | refine Zc ?_ | refine XO_gU (hk := ?_))
    exact X_round (i + 1, ⟨C, mm, S, bs, ms, a1, c1, a2, c2, a3, c3, a4, c4⟩) ⟨by show i + 1 ≤ xs.length; omega, ⟨⟨by show KInv C mm.f _; rw [hmf]; exact hR0.K, hR0.hP, hR0.S, hR0.po⟩, by show ObI mm.f S bs; rw [hmf]; exact hI, hJ.M, hlb, hlm⟩⟩ (by show xs.length - (i + 1) < xs.length - i; omega) (by (repeat (first | exact Env.sub_nil _ | refine Env.sub_cons rfl ?_))) (by ((try simp only [List.cons_append, List.nil_append]); repeat (first | exact ent_nil | exact ent_refl | refine ent_take (by repeat (first | exact Find.here | apply Find.there)) ?_ | refine ent_drop ?_)))
  have hkl2 : k2 < bs.length := by omega
  have hgk2 : bs[k2]? = some bs[k2] := List.getElem?_eq_getElem hkl2
  have hbm := List.getElem_mem hkl2
  have hdis := fun j (hj : j < k2) => apart_at hI.dis hj hkl2
  generalize hbk : bs[k2] = b at hgk2 hbm hdis
  obtain ⟨z1, z2, z3, z4⟩ := hI.sz b hbm
  have hby := hI.byt b hbm
  obtain ⟨pp, hpp, hp1, hp2⟩ := hI.inp b hbm
  have hpo := hR0.po pp hpp
  have hprun := hR0.S.pi.parts _ (List.mem_map.2 ⟨pp, hpp, rfl⟩)
  unfold PtOk at hpo
  unfold RunOk runP at hprun
  simp only at hprun
  refine X_slopen (E' := eOA) (a := a1) (c := c1) (xs := bs) (by (repeat (first | exact Find.here | apply Find.there))) (by omega) ?_
  rintro u1 v1 rfl
  refine X_slopen (E' := eOS) (a := a2) (c := c2) (xs := bs) (by (repeat (first | exact Find.here | apply Find.there))) (by omega) ?_
  rintro u2 v2 rfl
  have hmd : (b.2.1 + 100000 * b.2.2) % 100000 = b.2.1 := by omega
  have hqd : (b.2.1 + 100000 * b.2.2) / 100000 = b.2.2 := by omega
  repeat (first | refine Zq ?_ | refine Zs ?_ | refine ZT ?_ | refine ZF ?_ | refine Zc ?_ | refine XO_gU (hk := ?_))
  refine X_reval 22 (.int .u64 b.2.1) ?_ (hv := congrArg (Value.int .u64) hmd)
  refine X_loop (ι := Nat × Bool) (fun y => y.1 ≤ sh.length ∧ ∀ q ∈ sh.take y.1, q.1 * 4096 + 32 ≤ b.1 → b.1 + b.2.1 ≤ (q.1 + q.2) * 4096 → y.2 = true)
    (fun y => [(0, .slice (some ⟨vb, vo, none⟩) xs.length c0), (4, .pointer (some ⟨s, 0, none⟩)), (5, .pointer (some ⟨r, 0, none⟩)), (6, .slice (some ⟨u1, v1, none⟩) bs.length c1), (7, .slice (some ⟨u2, v2, none⟩) bs.length c2), (8, .slice a3 ms.length c3), (9, .slice a4 ms.length c4), (10, .int .i64 (i : Int)), (19, .slice sa sh.length sc), (21, .int .i64 (k2 : Int)), (22, .int .u64 b.2.1), (23, .bool y.2), (24, .int .i64 (y.1 : Int))]) (fun _ => [Sl eRun sa sc sh, Sl eOA (some ⟨u1, v1, none⟩) c1 bs, Sl eOS (some ⟨u2, v2, none⟩) c2 bs, Sl eMK a3 c3 ms, Sl eML a4 c4 ms, Rg r s 3 S, Ck s sb C, Spc sb 600 mm, base W]) (fun y => sh.length - y.1) (0, false) ⟨Nat.zero_le _, fun q hq => by cases hq⟩ ?_ (by ((try simp only [List.cons_append, List.nil_append]); repeat (first | exact ent_nil | exact ent_refl | refine ent_take (by repeat (first | exact Find.here | apply Find.there)) ?_ | refine ent_drop ?_))) ?_
  · (repeat (first | exact Env.sub_nil _ | refine Env.sub_cons rfl ?_))
  rintro ⟨j, inb⟩ ⟨hj, hin⟩
  dsimp only at hj hin ⊢
  repeat (first | refine Zq ?_ | refine Zs ?_ | refine ZT ?_ | refine ZF ?_ | refine Zc ?_ | refine XO_gU (hk := ?_))
  refine X_cond rfl (fun hc3 => ?_) (fun hc3 => ?_) <;> simp only [decide_eq_true_eq, decide_eq_false_iff_not] at hc3
  · have hjl : j < sh.length := by omega
    have hgr : sh[j]? = some sh[j] := List.getElem?_eq_getElem hjl
    have hrr := hshb sh[j] (List.getElem_mem hjl)
    have htk : sh.take (j + 1) = sh.take j ++ [sh[j]] := List.take_succ_eq_append_getElem hjl
    generalize sh[j] = q at hgr hrr htk
    refine X_slopen (E' := eRun) (a := sa) (c := sc) (xs := sh) (by (repeat (first | exact Find.here | apply Find.there))) (by omega) ?_
    rintro qb qo rfl
    repeat (first | refine Zq ?_ | refine Zs ?_ | refine ZT ?_ | refine ZF ?_ | refine Zc ?_ | refine XO_gU (hk := ?_))
    repeat (first | refine XD_pick (h := ?_) | refine Dq ?_ | refine Ds ?_ | refine XDi_gF (h := ?_) | refine XDi_gU (h := ?_) | refine X_draws (h := ?_))
    (refine XD_one (h := ?_); refine XDa_dvA (dv_of_rv (rv_of_pv pv_assign)) (hk := ?_); rintro _ _ ⟨rfl, rfl⟩; refine ⟨by (repeat (first | exact keeps_nil | exact keeps_fnil | refine keeps_skip (h := ?_) | refine keeps_takeQ (h := ?_))), ?_⟩)
    (refine XD_end (h := ?_); repeat (first | refine Zq ?_ | refine Zs ?_ | refine ZT ?_ | refine ZF ?_ | refine Zc ?_ | refine XO_gU (hk := ?_)))
    cases inb with
    | true =>
      repeat (first | refine Zq ?_ | refine Zs ?_ | refine ZT ?_ | refine ZF ?_ | refine Zc ?_ | refine XO_gU (hk := ?_))
      exact X_round (j + 1, true) ⟨by show j + 1 ≤ sh.length; omega, fun _ _ _ _ => rfl⟩ (by show sh.length - (j + 1) < sh.length - j; omega) (by (repeat (first | exact Env.sub_nil _ | refine Env.sub_cons rfl ?_))) (by ((try simp only [List.cons_append, List.nil_append]); repeat (first | exact ent_nil | exact ent_refl | refine ent_take (by repeat (first | exact Find.here | apply Find.there)) ?_ | refine ent_drop ?_)))
    | false =>
      repeat (first | refine Zq ?_ | refine Zs ?_ | refine ZT ?_ | refine ZF ?_ | refine Zc ?_ | refine XO_gU (hk := ?_))
      refine XO_either (hT := fun h7 => ?_) (hF := fun h7 => ?_) <;> simp only [decide_eq_true_eq, decide_eq_false_iff_not] at h7
      · repeat (first | refine Zq ?_ | refine Zs ?_ | refine ZT ?_ | refine ZF ?_ | refine Zc ?_ | refine XO_gU (hk := ?_))
        refine X_round (j + 1, decide (b.1 + b.2.1 ≤ (q.1 + q.2) * 4096)) ⟨by show j + 1 ≤ sh.length; omega, fun y hy y1 y2 => ?_⟩ (by show sh.length - (j + 1) < sh.length - j; omega) (by (repeat (first | exact Env.sub_nil _ | refine Env.sub_cons rfl ?_))) (by ((try simp only [List.cons_append, List.nil_append]); repeat (first | exact ent_nil | exact ent_refl | refine ent_take (by repeat (first | exact Find.here | apply Find.there)) ?_ | refine ent_drop ?_)))
        rw [htk] at hy
        rcases List.mem_append.1 hy with hy | hy
        · cases hin y hy y1 y2
        · simp at hy; subst hy; exact decide_eq_true y2
      · repeat (first | refine Zq ?_ | refine Zs ?_ | refine ZT ?_ | refine ZF ?_ | refine Zc ?_ | refine XO_gU (hk := ?_))
        refine X_round (j + 1, false) ⟨by show j + 1 ≤ sh.length; omega, fun y hy y1 y2 => ?_⟩ (by show sh.length - (j + 1) < sh.length - j; omega) (by (repeat (first | exact Env.sub_nil _ | refine Env.sub_cons rfl ?_))) (by ((try simp only [List.cons_append, List.nil_append]); repeat (first | exact ent_nil | exact ent_refl | refine ent_take (by repeat (first | exact Find.here | apply Find.there)) ?_ | refine ent_drop ?_)))
        rw [htk] at hy
        rcases List.mem_append.1 hy with hy | hy
        · exact hin y hy y1 y2
        · simp at hy; subst hy; omega
  obtain rfl : j = sh.length := by omega
  rw [List.take_length] at hin
  obtain rfl : inb = true := hin _ (hshm pp hpp) hp1 (by show b.1 + b.2.1 ≤ (pp.1 + pp.2.1) * 4096; omega)
  repeat (first | refine Zq ?_ | refine Zs ?_ | refine ZT ?_ | refine ZF ?_ | refine Zc ?_ | refine XO_gU (hk := ?_))
  refine X_loop (ι := Nat) (fun j => j ≤ k2) (fun j => [(0, .slice (some ⟨vb, vo, none⟩) xs.length c0), (4, .pointer (some ⟨s, 0, none⟩)), (5, .pointer (some ⟨r, 0, none⟩)), (6, .slice (some ⟨u1, v1, none⟩) bs.length c1), (7, .slice (some ⟨u2, v2, none⟩) bs.length c2), (8, .slice a3 ms.length c3), (9, .slice a4 ms.length c4), (10, .int .i64 (i : Int)), (19, .slice sa sh.length sc), (21, .int .i64 (k2 : Int)), (22, .int .u64 b.2.1), (23, .bool true), (27, .int .i64 (j : Int))]) (fun _ => [Sl eRun sa sc sh, Sl eOA (some ⟨u1, v1, none⟩) c1 bs, Sl eOS (some ⟨u2, v2, none⟩) c2 bs, Sl eMK a3 c3 ms, Sl eML a4 c4 ms, Rg r s 3 S, Ck s sb C, Spc sb 600 mm, base W]) (fun j => k2 - j) 0 (Nat.zero_le _) ?_ (by ((try simp only [List.cons_append, List.nil_append]); repeat (first | exact ent_nil | exact ent_refl | refine ent_take (by repeat (first | exact Find.here | apply Find.there)) ?_ | refine ent_drop ?_))) ?_
  · (repeat (first | exact Env.sub_nil _ | refine Env.sub_cons rfl ?_))
  intro j hj
  dsimp only at hj ⊢
  repeat (first | refine Zq ?_ | refine Zs ?_ | refine ZT ?_ | refine ZF ?_ | refine Zc ?_ | refine XO_gU (hk := ?_))
  refine X_cond rfl (fun hc3 => ?_) (fun hc3 => ?_) <;> simp only [decide_eq_true_eq, decide_eq_false_iff_not] at hc3
  · have hjl : j < bs.length := by omega
    have hgj : bs[j]? = some bs[j] := List.getElem?_eq_getElem hjl
    have hapj := hdis j (by omega)
    have hbjm := List.getElem_mem hjl
    generalize bs[j] = bj at hgj hapj hbjm
    obtain ⟨y1, y2, y3, y4⟩ := hI.sz bj hbjm
    obtain ⟨pj, hpj, hpj1, hpj2⟩ := hI.inp bj hbjm
    have hpoj := hR0.po pj hpj
    have hprj := hR0.S.pi.parts _ (List.mem_map.2 ⟨pj, hpj, rfl⟩)
    unfold PtOk at hpoj
    unfold RunOk runP at hprj
    simp only at hprj
    have hmdj : (bj.2.1 + 100000 * bj.2.2) % 100000 = bj.2.1 := by omega
    unfold Apart at hapj
    repeat (first | refine Zq ?_ | refine Zs ?_ | refine ZT ?_ | refine ZF ?_ | refine Zc ?_ | refine XO_gU (hk := ?_))
    repeat (first | refine XD_pick (h := ?_) | refine Dq ?_ | refine Ds ?_ | refine Dr (rv_elfG (E' := eOA) (xs := bs) k2 0 b (hget := hgk2)) ?_ | refine XDi_gF (h := ?_) | refine XDi_gU (h := ?_) | refine X_draws (h := ?_))
    refine XDi_either (hT := fun h7 => ?_) (hF := fun h7 => ?_) <;> simp only [decide_eq_true_eq, decide_eq_false_iff_not] at h7
    · repeat (first | refine XD_pick (h := ?_) | refine Dq ?_ | refine Ds ?_ | refine Dr (rv_elfG (E' := eOA) (xs := bs) k2 0 b (hget := hgk2)) ?_ | refine XDi_gF (h := ?_) | refine XDi_gU (h := ?_) | refine X_draws (h := ?_))
      (refine XD_end (h := ?_); repeat (first | refine Zq ?_ | refine Zs ?_ | refine ZT ?_ | refine ZF ?_ | refine Zc ?_ | refine XO_gU (hk := ?_)))
      refine X_cond rfl (fun h8 => ?_) (fun _ => ?_)
      · exfalso
        simp only [decide_eq_true_eq] at h8
        omega
      repeat (first | refine Zq ?_ | refine Zs ?_ | refine ZT ?_ | refine ZF ?_ | refine Zc ?_ | refine XO_gU (hk := ?_))
      exact X_round (j + 1) (by show j + 1 ≤ k2; omega) (by show k2 - (j + 1) < k2 - j; omega) (by (repeat (first | exact Env.sub_nil _ | refine Env.sub_cons rfl ?_))) (by ((try simp only [List.cons_append, List.nil_append]); repeat (first | exact ent_nil | exact ent_refl | refine ent_take (by repeat (first | exact Find.here | apply Find.there)) ?_ | refine ent_drop ?_)))
    · repeat (first | refine XD_pick (h := ?_) | refine Dq ?_ | refine Ds ?_ | refine Dr (rv_elfG (E' := eOA) (xs := bs) k2 0 b (hget := hgk2)) ?_ | refine XDi_gF (h := ?_) | refine XDi_gU (h := ?_) | refine X_draws (h := ?_))
      (refine XD_end (h := ?_); repeat (first | refine Zq ?_ | refine Zs ?_ | refine ZT ?_ | refine ZF ?_ | refine Zc ?_ | refine XO_gU (hk := ?_)))
      refine X_cond rfl (fun h8 => by cases h8) (fun _ => ?_)
      repeat (first | refine Zq ?_ | refine Zs ?_ | refine ZT ?_ | refine ZF ?_ | refine Zc ?_ | refine XO_gU (hk := ?_))
      exact X_round (j + 1) (by show j + 1 ≤ k2; omega) (by show k2 - (j + 1) < k2 - j; omega) (by (repeat (first | exact Env.sub_nil _ | refine Env.sub_cons rfl ?_))) (by ((try simp only [List.cons_append, List.nil_append]); repeat (first | exact ent_nil | exact ent_refl | refine ent_take (by repeat (first | exact Find.here | apply Find.there)) ?_ | refine ent_drop ?_)))
  have sl := load_ok sb (P := 600) (m := mm) (at_ := b.1) (n := b.2.1) (by decide) (by decide) (by omega) (by omega) (by omega) (by omega)
  rw [hmf, hby] at sl
  have hfl := fillB_len b.2.1.toNat b.2.2
  repeat (first | refine Zq ?_ | refine Zs ?_ | refine ZT ?_ | refine ZF ?_ | refine Zc ?_ | refine XO_gU (hk := ?_))
  repeat (first | refine XD_pick (h := ?_) | refine Dq ?_ | refine Ds ?_ | refine XDi_gF (h := ?_) | refine XDi_gU (h := ?_) | refine X_draws (h := ?_))
  refine XD_one (h := ?_)
  refine XDa_dvA (dv_call (kspace_spec s sb C)) (hk := ?_)
  (rintro _ _ ⟨_, ⟨rfl, rfl⟩, rfl⟩; refine ⟨by (repeat (first | exact keeps_nil | exact keeps_fnil | refine keeps_skip (h := ?_) | refine keeps_takeQ (h := ?_))), ?_⟩)
  repeat (first | refine XD_pick (h := ?_) | refine Dq ?_ | refine Ds ?_ | refine XDi_gF (h := ?_) | refine XDi_gU (h := ?_) | refine X_draws (h := ?_))
  refine XD_one (h := ?_)
  refine XDa_dvA (dv_call sl) (hk := ?_)
  rintro _ _ ⟨_, ⟨ob, rfl, rfl⟩, rfl⟩
  refine ⟨by (repeat (first | exact keeps_nil | exact keeps_fnil | refine keeps_skip (h := ?_) | refine keeps_takeQ (h := ?_))), ?_⟩
  repeat (first | refine XD_pick (h := ?_) | refine Dq ?_ | refine Ds ?_ | refine XDi_gF (h := ?_) | refine XDi_gU (h := ?_) | refine X_draws (h := ?_))
  (refine XD_one (h := ?_); refine XDa_dvA (dv_of_rv (rv_of_pv pv_assign)) (hk := ?_); rintro _ _ ⟨rfl, rfl⟩; refine ⟨by (repeat (first | exact keeps_nil | exact keeps_fnil | refine keeps_skip (h := ?_) | refine keeps_takeQ (h := ?_))), ?_⟩)
  (refine XD_one (h := ?_); refine XDa_dvA (dv_of_rv (rv_of_pv pv_assign)) (hk := ?_); rintro _ _ ⟨rfl, rfl⟩; refine ⟨by (repeat (first | exact keeps_nil | exact keeps_fnil | refine keeps_skip (h := ?_) | refine keeps_takeQ (h := ?_))), ?_⟩)
  (refine XD_end (h := ?_); repeat (first | refine Zq ?_ | refine Zs ?_ | refine ZT ?_ | refine ZF ?_ | refine Zc ?_ | refine XO_gU (hk := ?_)))
  repeat (first | refine XD_pick (h := ?_) | refine Dq ?_ | refine Ds ?_ | refine XDi_gF (h := ?_) | refine XDi_gU (h := ?_) | refine X_draws (h := ?_))
  refine XDi_rvA (rv_stringOf (asB (fillB b.2.1.toNat b.2.2)) (b := ob) (o := 0) (m := b.2.1.toNat) (c := b.2.1.toNat) (A := Sl (eI .u8) (some ⟨ob, 0, none⟩) b.2.1.toNat (fillB b.2.1.toNat b.2.2)) (hx := rfl) (hV := Sl.view) (hm := by omega) (hl := by rw [asB_back (fillB_byt _ _), List.take_of_length_le (by omega)])) (h := ?_)
  repeat (first | refine XD_pick (h := ?_) | refine Dq ?_ | refine Ds ?_ | refine XDi_gF (h := ?_) | refine XDi_gU (h := ?_) | refine X_draws (h := ?_))
  have sf := fill_spec b.2.1 ((b.2.1 + 100000 * b.2.2) / 100000) z1 z2 (by omega) (by omega)
  refine XD_one (h := ?_)
  refine XDa_dvA (dv_call sf) (hk := ?_)
  rintro _ _ ⟨_, ⟨rfl, rfl⟩, rfl⟩
  refine ⟨by (repeat (first | exact keeps_nil | exact keeps_fnil | refine keeps_skip (h := ?_) | refine keeps_takeQ (h := ?_) | refine keeps_takeA (hv := (rv_stringOf (asB (fillB b.2.1.toNat b.2.2)) (b := ob) (o := 0) (m := b.2.1.toNat) (c := b.2.1.toNat) (A := Sl (eI .u8) (some ⟨ob, 0, none⟩) b.2.1.toNat (fillB b.2.1.toNat b.2.2)) (hx := rfl) (hV := Sl.view) (hm := by omega) (hl := by rw [asB_back (fillB_byt _ _), List.take_of_length_le (by omega)]))) (h := ?_))), ?_⟩
  repeat (first | refine XD_pick (h := ?_) | refine Dq ?_ | refine Ds ?_ | refine XDi_gF (h := ?_) | refine XDi_gU (h := ?_) | refine X_draws (h := ?_))
  refine Dp pv_neStr ?_
  repeat (first | refine XD_pick (h := ?_) | refine Dq ?_ | refine Ds ?_ | refine XDi_gF (h := ?_) | refine XDi_gU (h := ?_) | refine X_draws (h := ?_))
  (refine XD_end (h := ?_); repeat (first | refine Zq ?_ | refine Zs ?_ | refine ZT ?_ | refine ZF ?_ | refine Zc ?_ | refine XO_gU (hk := ?_)))
  refine X_cond rfl (fun h9 => ?_) (fun _ => ?_)
  · exfalso
    rw [hqd] at h9
    simp at h9
  repeat (first | refine Zq ?_ | refine Zs ?_ | refine ZT ?_ | refine ZF ?_ | refine Zc ?_ | refine XO_gU (hk := ?_))
  exact X_round (k2 + 1, ldM mm b.1 b.2.1) ⟨by show k2 + 1 ≤ bs.length; omega, hmf⟩ (by show bs.length - (k2 + 1) < bs.length - k2; omega) (by (repeat (first | exact Env.sub_nil _ | refine Env.sub_cons rfl ?_))) (by ((try simp only [List.cons_append, List.nil_append]); repeat (first | exact ent_nil | exact ent_refl | refine ent_take (by repeat (first | exact Find.here | apply Find.there)) ?_ | refine ent_drop ?_)))
end Go.Proofs.Ytgoocobeoejoaaa.Sep
