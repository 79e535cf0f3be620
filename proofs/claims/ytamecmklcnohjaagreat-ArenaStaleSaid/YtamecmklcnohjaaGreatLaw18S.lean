import Derived.Test.YtamecmklcnohjaaGreatBn15
namespace Go.Proofs.YtamecmklcnohjaaGreat.Sep
open Go.RowKit
set_option linter.unusedSimpArgs false
set_option linter.unusedVariables false
theorem ar0 (p : Int) {z : Ar} (hz : z = ⟨⟨min (max p 1) 1048576, [(0, min (max p 1) 1048576)], fun _ => [], 0⟩, ⟨fun _ => 0, 0⟩, min (max p 1) 1048576, ⟨1, [], []⟩, [], ⟨2, [], []⟩, ⟨3, [], []⟩, [], []⟩) : Inv (fun _ => emptySh) z ∧ AB 0 z := by
 subst hz
 have hn : ∀ {α : Type} (k : Int) (x : Int), (⟨k, [], []⟩ : Tb α).get x = none := fun {α} k x => by
  unfold Tb.get Tb.spot Tb.usedAt
  simp
 refine ⟨⟨(fun q hq => by rcases hq with h | h <;> cases h), (fun q hq => by cases hq), fun y v e => ?_, fun y k e => ?_, fun y k y' k' e => ?_, fun y v b S e => ?_, fun y k u v e => ?_⟩, ⟨0, AOk.new p, Nat.le_refl _⟩⟩
 all_goals first | (rw [show (⟨2, [], []⟩ : Tb (Int × Int × Int)).get y = none from hn 2 y] at e; cases e) | (rw [show (⟨3, [], []⟩ : Tb MkT).get y = none from hn 3 y] at e; cases e)
structure StZ where
 i : Nat
 z : Ar
 σ : Int → Sh
 tl : List Int
 a : Option Addr
 c : Nat
 sx : List Int
 b : Option Addr
 d : Nat
def TdL (z : Ar) (l : List Int) : Prop := ∀ v ∈ l, (0 ≤ v ∧ v ≤ 18446744073709551615) ∧ v ≠ 0 ∧ ToldA z v
def DdL (z : Ar) (l : List Int) : Prop := ∀ v ∈ l, (0 ≤ v ∧ v ≤ 18446744073709551615) ∧ v ≠ 0 ∧ ToldA z v ∧ DeadA z v
structure StJ (y : StZ) : Prop where
 I : Inv y.σ y.z
 B : AB (3 * y.i) y.z
 l : y.tl.length ≤ y.i
 t : TdL y.z y.tl
 s : DdL y.z y.sx
 sl : y.sx.length ≤ 400
theorem Mono.tdl {z z' : Ar} (h : Mono z z') {l : List Int} (k : TdL z l) : TdL z' l := fun v hv => ⟨(k v hv).1, (k v hv).2.1, h.told v (k v hv).2.2⟩
theorem Mono.ddl {z z' : Ar} (h : Mono z z') {l : List Int} (k : DdL z l) : DdL z' l := fun v hv => ⟨(k v hv).1, (k v hv).2.1, h.told v (k v hv).2.2.1, h.dead v (k v hv).2.2.1 (k v hv).2.2.2⟩
theorem m_t1 {l : List Int} {j : Nat} {u v : Int} (h : l[j]? = some u) : v ∈ l.take (j + 1) ↔ v ∈ l.take j ∨ u = v := by
 rw [List.take_add_one, h]
 simp [eq_comm]
theorem i_s {Q A A' B : Prop} (h : A' ↔ A ∨ B) : (Q ∨ A') ↔ (Q ∨ A) ∨ B := by rw [h, or_assoc]
theorem is_t {Q R B : Prop} (h : true = true ↔ Q) (hR : R ↔ Q ∨ B) : true = true ↔ R := ⟨fun _ => hR.2 (.inl (h.1 rfl)), fun _ => rfl⟩
theorem is_f {Q R : Prop} {u v : Int} (h : false = true ↔ Q) (hR : R ↔ Q ∨ u = v) : (u == v) = true ↔ R := by
 rw [beq_iff_eq]
 exact ⟨fun e => hR.2 (.inr e), fun e => (hR.1 e).resolve_left (fun q => by cases h.2 q)⟩
theorem hn_n {α : Type} {N : Nat} {t : Tb α} (ht : TbOk N t) {v : Int} (h : v ∉ t.handles) : t.get v = none := by
 cases hc : t.get v with
 | none => rfl
 | some u => exact absurd ((Tb.handles_iff ht).2 (by rw [hc]; rfl)) h
theorem m_ln (z : Ar) : (meterA z).length = mKs.length := rfl
theorem shl_bd (x : Int) : 0 ≤ IntKind.u64.wrap x ∧ IntKind.u64.wrap x ≤ 18446744073709551615 := by
 rw [wrap_u64_eq]; omega
set_option maxHeartbeats 8000000
attribute [local irreducible] X XE XO XD XDi XDa PV RV DV pt base Spec Sl Mp Keeps Pg Kc
attribute [local irreducible] Pgs Spc Ck XL XLi Pl Rs Rg View Tbl Tre Ros Star RgOf Arn
theorem stale18 (a1 : Option Addr) (c1 : Nat) (xs : List A18) (W : World) (hok : ∀ x ∈ xs, OkA18 W x) (hl1 : xs.length ≤ maxLen) (V1 : View (base W) eA18 a1 xs) :
  Calls Tryz.prog 7 #[.slice a1 xs.length c1] W fun e w' => e = .returned (.bool true) ∧ Below W.heap.size W w' := by
 refine law_intro (args := [.slice a1 xs.length c1]) Tryz.func7 rfl Tryz.ntmps7 (by simp) ?_
 simp only [envOf, List.zipIdx, List.map, List.cons_append, List.nil_append, Nat.zero_add, Nat.reduceAdd]
 (repeat refine Z ?_)
 refine XO_call awake18_spec (hk := ?_)
 rintro _ _ ⟨rfl, rfl⟩
 (repeat refine Z ?_)
 refine X_cond rfl (fun h => by cases h) (fun _ => ?_)
 (repeat refine Z ?_)
 refine XO_call (few_spec a1 c1 xs W hok V1 hl1) (hk := ?_)
 rintro _ _ ⟨fb, rfl, rfl, hfew⟩
 (repeat refine Z ?_)
 refine X_cond rfl (fun h => ?_) (fun h => ?_)
 ·(repeat refine Z ?_)
  refine XE_ret (.inl rfl) (tells_tmps rfl rfl) ⟨_, ⟨rfl, rfl⟩, by exact EN⟩
 have hfb : fb = true := by cases fb <;> simp_all
 obtain ⟨hB1, hlen⟩ := hfew hfb
 (repeat refine Z ?_)
 refine XO_call (ar_new 300) (hk := ?_)
 rintro _ _ ⟨x, rfl, rfl⟩
 generalize hz : (⟨⟨min (max 300 1) 1048576, [(0, min (max 300 1) 1048576)], fun _ => [], 0⟩, ⟨fun _ => 0, 0⟩, min (max 300 1) 1048576, ⟨1, [], []⟩, [], ⟨2, [], []⟩, ⟨3, [], []⟩, [], []⟩ : Ar) = z0
 obtain ⟨hI0, hB0⟩ := ar0 300 hz.symm
 clear hz
 (repeat refine Z ?_)
 refine X_conv (fun _ h => SL_nilSl (eI .u64) h) ?_
 refine X_conv (fun _ h => SL_nilSl (eI .u64) h) ?_
 refine X_loop (ι := StZ) (fun y => y.i ≤ xs.length ∧ StJ y) (fun y => [(0, .slice a1 xs.length c1), (5, .pointer (some ⟨x.a, 0, none⟩)), (6, .slice y.a y.tl.length y.c), (7, .slice y.b y.sx.length y.d), (8, .int .i64 (y.i : Int))])
  (fun y => [Arn x y.z, Sl (eI .u64) y.a y.c y.tl, Sl (eI .u64) y.b y.d y.sx, base W]) (fun y => xs.length - y.i) ⟨0, z0, fun _ => emptySh, [], none, 0, [], none, 0⟩ ⟨Nat.zero_le _, hI0, hB0, Nat.le_refl _, (fun v hv => by cases hv), (fun v hv => by cases hv), by show 0 ≤ 400; omega⟩ ?_ (by ((try simp only [List.cons_append, List.nil_append]); repeat (first | exact ent_nil | exact ent_refl | refine ent_take (by repeat (first | exact Find.here | apply Find.there)) ?_ | refine ent_drop ?_))) ?_
 ·exact SBs
 clear hI0 hB0
 rintro ⟨i, z, σ, tl, ta, tc, sx, sa, sc⟩ ⟨hi, hJ⟩
 dsimp only at hi hJ ⊢
 obtain ⟨hI, hB, htl, hT, hS, hsl⟩ := hJ
 dsimp only at hI hB htl hT hS hsl
 (repeat refine Z ?_)
 refine X_cond rfl (fun hc => ?_) (fun hc => ?_) <;> simp only [decide_eq_true_eq, decide_eq_false_iff_not] at hc
 ·have hil : i < xs.length := by omega
  obtain ⟨y, hy⟩ : ∃ y, xs[i]? = some y := ⟨_, List.getElem?_eq_getElem hil⟩
  have hym := List.mem_of_getElem? hy
  have hget : xs[(i : Int).toNat]? = some y := by rw [Int.toNat_natCast]; exact hy
  have hyo := hok y hym
  have hyb := hB1 y hym
  have hyd := hyo.d
  have hyw := hyo.wh
  have hys := hyo.sz
  have hya := hyo.al
  refine X_view (A := base W) (by exact FDs) V1 (by omega) ?_
  rintro vb vo rfl
  (repeat refine Z ?_)
  refine XO_dv (dv_alloc (row := [.int .u8 0, .int .u8 0, .int .u64 0, .int .u64 0, .int .u64 0, .slice none 0 0])) (hk := ?_)
  rintro _ _ ⟨kb, rfl, rfl⟩
  refine XO_dv0 (dv_storeW (vs := [.int .u8 y.d, .int .u8 y.wh, .int .u64 y.h, .int .u64 y.sz, .int .u64 y.al, .slice y.a y.bs.length y.c])) (hk := ?_)
  rintro _ _ rfl
  clear hget
  (repeat refine Z ?_)
  refine XO_dv0 dv_store (hk := ?_)
  rintro _ _ rfl
  (repeat refine Z ?_)
  refine XO_dv0 dv_store (hk := ?_)
  rintro _ _ rfl
  refine XO_nil ?_
  refine XE_code ?_
  refine X_seq ?_
  refine X_join (ι := Int) (fun al => 0 ≤ al ∧ al ≤ 18446744073709551615) (fun _ => [(0, .slice (some ⟨vb, vo, none⟩) xs.length c1), (5, .pointer (some ⟨x.a, 0, none⟩)), (6, .slice ta tl.length tc), (7, .slice sa sx.length sc), (8, .int .i64 (i : Int)), (9, .pointer (some ⟨kb, 0, none⟩))]) (fun al => [pt kb (.cells [.int .u8 y.d, .int .u8 y.wh, .int .u64 0, .int .u64 (y.sz % 9000), .int .u64 al, .slice y.a y.bs.length y.c].toArray 73 (0, 0)), Arn x z, Sl (eI .u64) ta tc tl, Sl (eI .u64) sa sc sx, base W]) ?_ ?_
  ·(repeat refine Z ?_)
   refine X_cond rfl (fun h1 => ?_) (fun h1 => ?_)
   ·(repeat refine Z ?_)
    refine XO_pv (pv_shlN (b := y.wh % 13)) (hk := ?_)
    generalize hr : IntKind.u64.wrap _ = r
    have hrb : 0 ≤ r ∧ r ≤ 18446744073709551615 := by rw [← hr]; exact shl_bd _
    (repeat refine Z ?_)
    refine XO_dv0 dv_store (hk := ?_)
    rintro _ _ rfl
    refine XO_nil ?_
    exact X_meet r hrb (by exact SBs) (by ((try simp only [List.cons_append, List.nil_append]); repeat (first | exact ent_nil | exact ent_refl | refine ent_take (by repeat (first | exact Find.here | apply Find.there)) ?_ | refine ent_drop ?_)))
   ·(repeat refine Z ?_)
    exact X_meet y.al hya (by exact SBs) (by ((try simp only [List.cons_append, List.nil_append]); repeat (first | exact ent_nil | exact ent_refl | refine ent_take (by repeat (first | exact Find.here | apply Find.there)) ?_ | refine ent_drop ?_)))
  rintro al hal
  try dsimp only at hal ⊢
  refine X_seq ?_
  refine X_join (ι := Int) (fun al => 0 ≤ al ∧ al ≤ 18446744073709551615) (fun _ => [(0, .slice (some ⟨vb, vo, none⟩) xs.length c1), (5, .pointer (some ⟨x.a, 0, none⟩)), (6, .slice ta tl.length tc), (7, .slice sa sx.length sc), (8, .int .i64 (i : Int)), (9, .pointer (some ⟨kb, 0, none⟩))]) (fun al => [pt kb (.cells [.int .u8 y.d, .int .u8 y.wh, .int .u64 0, .int .u64 (y.sz % 9000), .int .u64 al, .slice y.a y.bs.length y.c].toArray 73 (0, 0)), Arn x z, Sl (eI .u64) ta tc tl, Sl (eI .u64) sa sc sx, base W]) ?_ ?_
  ·(repeat refine Z ?_)
   refine X_cond rfl (fun h1 => ?_) (fun h1 => ?_)
   ·(repeat refine Z ?_)
    refine XO_dv0 dv_store (hk := ?_)
    rintro _ _ rfl
    refine XO_nil ?_
    exact X_meet (al % 100) (by omega) (by exact SBs) (by ((try simp only [List.cons_append, List.nil_append]); repeat (first | exact ent_nil | exact ent_refl | refine ent_take (by repeat (first | exact Find.here | apply Find.there)) ?_ | refine ent_drop ?_)))
   ·(repeat refine Z ?_)
    exact X_meet al hal (by exact SBs) (by ((try simp only [List.cons_append, List.nil_append]); repeat (first | exact ent_nil | exact ent_refl | refine ent_take (by repeat (first | exact Find.here | apply Find.there)) ?_ | refine ent_drop ?_)))
  clear al hal
  rintro al hal
  try dsimp only at hal ⊢
  have hok2 : OkA18 W ⟨y.d, y.wh, 0, y.sz % 9000, al, y.a, y.c, y.bs⟩ := ⟨hyd, hyw, (by dsimp only; omega), (by dsimp only; omega), hal, hyo.V, hyo.B, hyo.l, hyo.c⟩
  obtain ⟨y2, hy2⟩ : ∃ y2 : A18, y2 = ⟨y.d, y.wh, 0, y.sz % 9000, al, y.a, y.c, y.bs⟩ := ⟨_, rfl⟩
  have hyb2 : y2.bs.length ≤ 100 := by rw [hy2]; exact hyb
  have hrow : ([.int .u8 y.d, .int .u8 y.wh, .int .u64 0, .int .u64 (y.sz % 9000), .int .u64 al, .slice y.a y.bs.length y.c] : List Value) = eA18.cells y2 := by rw [hy2]; rfl
  rw [← hy2] at hok2
  rw [hrow]
  (repeat refine Z ?_)
  refine XO_call (do_spec x z hI hB (by omega) (Sl (eI .u64) ta tc tl) ta tc tl Sl.view (by omega) (fun v hv => (hT v hv).1) y2 hok2 hyb2) (hk := ?_)
  rintro _ _ ⟨z', σ', r, s, n, e, rfl, rfl, hd⟩
  obtain ⟨hI', hB', hMo, hr⟩ := hd.keeps hI hB (by omega) hok2 (pickI_bd hok2 (fun v hv => (hT v hv).1))
  have hT' := hMo.tdl hT
  have hS' := hMo.ddl hS
  clear hd hT hS hI hB hMo
  (repeat refine Z ?_)
  refine X_join (ι := List Int × Option Addr × Nat) (fun t => t.1.length ≤ i + 1 ∧ TdL z' t.1) (fun t => [(0, .slice (some ⟨vb, vo, none⟩) xs.length c1), (5, .pointer (some ⟨x.a, 0, none⟩)), (6, .slice t.2.1 t.1.length t.2.2), (7, .slice sa sx.length sc), (8, .int .i64 (i : Int))]) (fun t => [Arn x z', Sl (eI .u64) t.2.1 t.2.2 t.1, Sl (eI .u64) sa sc sx, base W]) ?_ ?_
  ·refine X_cond rfl (fun h1 => ?_) (fun h1 => ?_) <;> simp only [bne_iff_ne, ne_eq, bne_eq_false_iff_eq] at h1
   ·(repeat refine Z ?_)
    refine XO_lit (E' := eI .u64) [r] (hk := ?_)
    intro lb
    (repeat refine Z ?_)
    refine XO_dv (dv_append (E' := eI .u64) (xs := tl) (ys := [r]) (hv := Sl.view) (hb := by simp; omega)) (hk := ?_)
    rintro _ _ ⟨b1, d1, rfl, rfl⟩
    (repeat refine Z ?_)
    refine X_meet (tl ++ [r], b1, d1) ⟨by simp; omega, fun v hv => ?_⟩ (by exact SBs) (by ((try simp only [List.cons_append, List.nil_append]); repeat (first | exact ent_nil | exact ent_refl | refine ent_take (by repeat (first | exact Find.here | apply Find.there)) ?_ | refine ent_drop ?_)))
    rcases List.mem_append.1 hv with h2 | h2
    ·exact hT' v h2
    ·rw [List.mem_singleton.1 h2]; exact ⟨(hr h1).2, h1, (hr h1).1⟩
   ·(repeat refine Z ?_)
    exact X_meet (tl, ta, tc) ⟨by show tl.length ≤ i + 1; omega, hT'⟩ (by exact SBs) (by ((try simp only [List.cons_append, List.nil_append]); repeat (first | exact ent_nil | exact ent_refl | refine ent_take (by repeat (first | exact Find.here | apply Find.there)) ?_ | refine ent_drop ?_)))
  clear hr hrow hok2 hyb2 hy2 y2 hT' htl
  clear tl ta tc
  rintro ⟨tl, ta, tc⟩ ⟨htl, hT⟩
  dsimp only at htl hT ⊢
  have hBz : AB 150 z' := hB'.le (by omega)
  have hA := hBz.ok (by decide)
  (repeat refine Z ?_)
  refine XO_call (ar_live x z' hA) (hk := ?_)
  rintro _ _ ⟨l1, m1, l2, m2, l3, m3, rfl, rfl⟩
  have hdr : ∀ v, v ∉ z'.reg.handles → v ∉ z'.obj.handles → v ∉ z'.mar.handles → DeadA z' v := fun v e1 e2 e3 => ⟨hn_n hA.rg e1, hn_n hA.ob e2, hn_n hA.mr e3⟩
  have n1 : z'.reg.handles.length ≤ 150 := Nat.le_trans (Tb.handles_len _) hA.rg.len
  have n2 : z'.obj.handles.length ≤ 150 := Nat.le_trans (Tb.handles_len _) hA.ob.len
  have n3 : z'.mar.handles.length ≤ 150 := Nat.le_trans (Tb.handles_len _) hA.mr.len
  generalize z'.reg.handles = pl at hdr n1 ⊢
  generalize z'.obj.handles = ql at hdr n2 ⊢
  generalize z'.mar.handles = rl at hdr n3 ⊢
  (repeat refine Z ?_)
  refine X_loop (ι := Nat × List Int × Option Addr × Nat) (fun t => t.1 ≤ tl.length ∧ t.2.1.length ≤ 400 + t.1 ∧ DdL z' t.2.1) (fun t => [(0, .slice (some ⟨vb, vo, none⟩) xs.length c1), (5, .pointer (some ⟨x.a, 0, none⟩)), (6, .slice ta tl.length tc), (7, .slice t.2.2.1 t.2.1.length t.2.2.2), (8, .int .i64 (i : Int)), (14, .slice l1 pl.length m1), (15, .slice l2 ql.length m2), (16, .slice l3 rl.length m3), (17, .int .i64 (t.1 : Int))])
   (fun t => [Arn x z', Sl (eI .u64) ta tc tl, Sl (eI .u64) t.2.2.1 t.2.2.2 t.2.1, Sl (eI .u64) l1 m1 pl, Sl (eI .u64) l2 m2 ql, Sl (eI .u64) l3 m3 rl, base W]) (fun t => tl.length - t.1) (0, sx, sa, sc) ⟨Nat.zero_le _, by show sx.length ≤ 400 + 0; omega, hS'⟩ ?_ (by ((try simp only [List.cons_append, List.nil_append]); repeat (first | exact ent_nil | exact ent_refl | refine ent_take (by repeat (first | exact Find.here | apply Find.there)) ?_ | refine ent_drop ?_))) ?_
  ·exact SBs
  clear hS' hsl
  clear sx sa sc
  rintro ⟨k, sx, sa, sc⟩ ⟨hk, hsl, hS⟩
  dsimp only at hk hsl hS ⊢
  (repeat refine Z ?_)
  refine X_cond rfl (fun hc2 => ?_) (fun hc2 => ?_) <;> simp only [decide_eq_true_eq, decide_eq_false_iff_not] at hc2
  ·obtain ⟨v, hv⟩ : ∃ v, tl[k]? = some v := ⟨_, List.getElem?_eq_getElem (by omega)⟩
   have hvt := hT v (List.mem_of_getElem? hv)
   have hgv : tl[(k : Int).toNat]? = some v := by rw [Int.toNat_natCast]; exact hv
   refine X_slopen (E' := eI .u64) (a := ta) (c := tc) (xs := tl) (by exact FDs) (by omega) ?_
   rintro tb tq rfl
   (repeat refine Z ?_)
   refine X_loop (ι := Nat × Bool) (fun t => t.1 ≤ pl.length ∧ (t.2 = true ↔ False ∨ v ∈ pl.take t.1)) (fun t => [(0, .slice (some ⟨vb, vo, none⟩) xs.length c1), (5, .pointer (some ⟨x.a, 0, none⟩)), (6, .slice (some ⟨tb, tq, none⟩) tl.length tc), (7, .slice sa sx.length sc), (8, .int .i64 (i : Int)), (14, .slice l1 pl.length m1), (15, .slice l2 ql.length m2), (16, .slice l3 rl.length m3), (17, .int .i64 (k : Int)), (18, .bool t.2), (19, .int .i64 (t.1 : Int))])
    (fun _ => [Arn x z', Sl (eI .u64) (some ⟨tb, tq, none⟩) tc tl, Sl (eI .u64) sa sc sx, Sl (eI .u64) l1 m1 pl, Sl (eI .u64) l2 m2 ql, Sl (eI .u64) l3 m3 rl, base W]) (fun t => pl.length - t.1) (0, false) ⟨Nat.zero_le _, by simp⟩ ?_ (by ((try simp only [List.cons_append, List.nil_append]); repeat (first | exact ent_nil | exact ent_refl | refine ent_take (by repeat (first | exact Find.here | apply Find.there)) ?_ | refine ent_drop ?_))) ?_
   ·exact SBs
   rintro ⟨j, b⟩ ⟨hj, hb⟩
   dsimp only at hj hb ⊢
   (repeat refine Z ?_)
   refine X_cond rfl (fun hc3 => ?_) (fun hc3 => ?_) <;> simp only [decide_eq_true_eq, decide_eq_false_iff_not] at hc3
   ·obtain ⟨u, hu⟩ : ∃ u, pl[j]? = some u := ⟨_, List.getElem?_eq_getElem (by omega)⟩
    have hgu : pl[(j : Int).toNat]? = some u := by rw [Int.toNat_natCast]; exact hu
    have hmt := i_s (Q := False) (m_t1 (v := v) hu)
    refine X_slopen (E' := eI .u64) (a := l1) (c := m1) (xs := pl) (by exact FDs) (by omega) ?_
    rintro pb po rfl
    cases b with
    | true =>
     (repeat refine Z ?_)
     (repeat refine ZD ?_)
     (refine XD_one (h := ?_); refine XDa_dvA (dv_of_rv (rv_of_pv pv_assign)) (hk := ?_); rintro _ _ ⟨rfl, rfl⟩; refine ⟨by exact KP, ?_⟩)
     (refine XD_end (h := ?_); (repeat refine Z ?_))
     exact X_round (j + 1, true) ⟨by show j + 1 ≤ pl.length; omega, is_t hb hmt⟩ (by show pl.length - (j + 1) < pl.length - j; omega) (by exact SBs) (by ((try simp only [List.cons_append, List.nil_append]); repeat (first | exact ent_nil | exact ent_refl | refine ent_take (by repeat (first | exact Find.here | apply Find.there)) ?_ | refine ent_drop ?_)))
    | false =>
     (repeat refine Z ?_)
     (repeat refine ZD ?_)
     (refine XD_one (h := ?_); refine XDa_dvA (dv_of_rv (rv_of_pv pv_assign)) (hk := ?_); rintro _ _ ⟨rfl, rfl⟩; refine ⟨by exact KP, ?_⟩)
     (refine XD_end (h := ?_); (repeat refine Z ?_))
     exact X_round (j + 1, u == v) ⟨by show j + 1 ≤ pl.length; omega, is_f hb hmt⟩ (by show pl.length - (j + 1) < pl.length - j; omega) (by exact SBs) (by ((try simp only [List.cons_append, List.nil_append]); repeat (first | exact ent_nil | exact ent_refl | refine ent_take (by repeat (first | exact Find.here | apply Find.there)) ?_ | refine ent_drop ?_)))
   have hj2 : j = pl.length := by omega
   rw [hj2, List.take_length] at hb
   clear hj hc3 hj2
   (repeat refine Z ?_)
   refine X_loop (ι := Nat × Bool) (fun t => t.1 ≤ ql.length ∧ (t.2 = true ↔ (False ∨ v ∈ pl) ∨ v ∈ ql.take t.1)) (fun t => [(0, .slice (some ⟨vb, vo, none⟩) xs.length c1), (5, .pointer (some ⟨x.a, 0, none⟩)), (6, .slice (some ⟨tb, tq, none⟩) tl.length tc), (7, .slice sa sx.length sc), (8, .int .i64 (i : Int)), (14, .slice l1 pl.length m1), (15, .slice l2 ql.length m2), (16, .slice l3 rl.length m3), (17, .int .i64 (k : Int)), (18, .bool t.2), (20, .int .i64 (t.1 : Int))])
    (fun _ => [Arn x z', Sl (eI .u64) (some ⟨tb, tq, none⟩) tc tl, Sl (eI .u64) sa sc sx, Sl (eI .u64) l1 m1 pl, Sl (eI .u64) l2 m2 ql, Sl (eI .u64) l3 m3 rl, base W]) (fun t => ql.length - t.1) (0, b) ⟨Nat.zero_le _, by simpa using hb⟩ ?_ (by ((try simp only [List.cons_append, List.nil_append]); repeat (first | exact ent_nil | exact ent_refl | refine ent_take (by repeat (first | exact Find.here | apply Find.there)) ?_ | refine ent_drop ?_))) ?_
   ·exact SBs
   rintro ⟨j, b⟩ ⟨hj, hb⟩
   dsimp only at hj hb ⊢
   (repeat refine Z ?_)
   refine X_cond rfl (fun hc3 => ?_) (fun hc3 => ?_) <;> simp only [decide_eq_true_eq, decide_eq_false_iff_not] at hc3
   ·obtain ⟨u, hu⟩ : ∃ u, ql[j]? = some u := ⟨_, List.getElem?_eq_getElem (by omega)⟩
    have hgu : ql[(j : Int).toNat]? = some u := by rw [Int.toNat_natCast]; exact hu
    have hmt := i_s (Q := (False ∨ v ∈ pl)) (m_t1 (v := v) hu)
    refine X_slopen (E' := eI .u64) (a := l2) (c := m2) (xs := ql) (by exact FDs) (by omega) ?_
    rintro pb po rfl
    cases b with
    | true =>
     (repeat refine Z ?_)
     (repeat refine ZD ?_)
     (refine XD_one (h := ?_); refine XDa_dvA (dv_of_rv (rv_of_pv pv_assign)) (hk := ?_); rintro _ _ ⟨rfl, rfl⟩; refine ⟨by exact KP, ?_⟩)
     (refine XD_end (h := ?_); (repeat refine Z ?_))
     exact X_round (j + 1, true) ⟨by show j + 1 ≤ ql.length; omega, is_t hb hmt⟩ (by show ql.length - (j + 1) < ql.length - j; omega) (by exact SBs) (by ((try simp only [List.cons_append, List.nil_append]); repeat (first | exact ent_nil | exact ent_refl | refine ent_take (by repeat (first | exact Find.here | apply Find.there)) ?_ | refine ent_drop ?_)))
    | false =>
     (repeat refine Z ?_)
     (repeat refine ZD ?_)
     (refine XD_one (h := ?_); refine XDa_dvA (dv_of_rv (rv_of_pv pv_assign)) (hk := ?_); rintro _ _ ⟨rfl, rfl⟩; refine ⟨by exact KP, ?_⟩)
     (refine XD_end (h := ?_); (repeat refine Z ?_))
     exact X_round (j + 1, u == v) ⟨by show j + 1 ≤ ql.length; omega, is_f hb hmt⟩ (by show ql.length - (j + 1) < ql.length - j; omega) (by exact SBs) (by ((try simp only [List.cons_append, List.nil_append]); repeat (first | exact ent_nil | exact ent_refl | refine ent_take (by repeat (first | exact Find.here | apply Find.there)) ?_ | refine ent_drop ?_)))
   have hj2 : j = ql.length := by omega
   rw [hj2, List.take_length] at hb
   clear hj hc3 hj2
   (repeat refine Z ?_)
   refine X_loop (ι := Nat × Bool) (fun t => t.1 ≤ rl.length ∧ (t.2 = true ↔ ((False ∨ v ∈ pl) ∨ v ∈ ql) ∨ v ∈ rl.take t.1)) (fun t => [(0, .slice (some ⟨vb, vo, none⟩) xs.length c1), (5, .pointer (some ⟨x.a, 0, none⟩)), (6, .slice (some ⟨tb, tq, none⟩) tl.length tc), (7, .slice sa sx.length sc), (8, .int .i64 (i : Int)), (14, .slice l1 pl.length m1), (15, .slice l2 ql.length m2), (16, .slice l3 rl.length m3), (17, .int .i64 (k : Int)), (18, .bool t.2), (21, .int .i64 (t.1 : Int))])
    (fun _ => [Arn x z', Sl (eI .u64) (some ⟨tb, tq, none⟩) tc tl, Sl (eI .u64) sa sc sx, Sl (eI .u64) l1 m1 pl, Sl (eI .u64) l2 m2 ql, Sl (eI .u64) l3 m3 rl, base W]) (fun t => rl.length - t.1) (0, b) ⟨Nat.zero_le _, by simpa using hb⟩ ?_ (by ((try simp only [List.cons_append, List.nil_append]); repeat (first | exact ent_nil | exact ent_refl | refine ent_take (by repeat (first | exact Find.here | apply Find.there)) ?_ | refine ent_drop ?_))) ?_
   ·exact SBs
   rintro ⟨j, b⟩ ⟨hj, hb⟩
   dsimp only at hj hb ⊢
   (repeat refine Z ?_)
   refine X_cond rfl (fun hc3 => ?_) (fun hc3 => ?_) <;> simp only [decide_eq_true_eq, decide_eq_false_iff_not] at hc3
   ·obtain ⟨u, hu⟩ : ∃ u, rl[j]? = some u := ⟨_, List.getElem?_eq_getElem (by omega)⟩
    have hgu : rl[(j : Int).toNat]? = some u := by rw [Int.toNat_natCast]; exact hu
    have hmt := i_s (Q := ((False ∨ v ∈ pl) ∨ v ∈ ql)) (m_t1 (v := v) hu)
    refine X_slopen (E' := eI .u64) (a := l3) (c := m3) (xs := rl) (by exact FDs) (by omega) ?_
    rintro pb po rfl
    cases b with
    | true =>
     (repeat refine Z ?_)
     (repeat refine ZD ?_)
     (refine XD_one (h := ?_); refine XDa_dvA (dv_of_rv (rv_of_pv pv_assign)) (hk := ?_); rintro _ _ ⟨rfl, rfl⟩; refine ⟨by exact KP, ?_⟩)
     (refine XD_end (h := ?_); (repeat refine Z ?_))
     exact X_round (j + 1, true) ⟨by show j + 1 ≤ rl.length; omega, is_t hb hmt⟩ (by show rl.length - (j + 1) < rl.length - j; omega) (by exact SBs) (by ((try simp only [List.cons_append, List.nil_append]); repeat (first | exact ent_nil | exact ent_refl | refine ent_take (by repeat (first | exact Find.here | apply Find.there)) ?_ | refine ent_drop ?_)))
    | false =>
     (repeat refine Z ?_)
     (repeat refine ZD ?_)
     (refine XD_one (h := ?_); refine XDa_dvA (dv_of_rv (rv_of_pv pv_assign)) (hk := ?_); rintro _ _ ⟨rfl, rfl⟩; refine ⟨by exact KP, ?_⟩)
     (refine XD_end (h := ?_); (repeat refine Z ?_))
     exact X_round (j + 1, u == v) ⟨by show j + 1 ≤ rl.length; omega, is_f hb hmt⟩ (by show rl.length - (j + 1) < rl.length - j; omega) (by exact SBs) (by ((try simp only [List.cons_append, List.nil_append]); repeat (first | exact ent_nil | exact ent_refl | refine ent_take (by repeat (first | exact Find.here | apply Find.there)) ?_ | refine ent_drop ?_)))
   have hj2 : j = rl.length := by omega
   rw [hj2, List.take_length] at hb
   clear hj hc3 hj2
   (repeat refine Z ?_)
   cases b with
   | false =>
    have hnot : v ∉ pl ∧ v ∉ ql ∧ v ∉ rl := by
     have : ¬ (((False ∨ v ∈ pl) ∨ v ∈ ql) ∨ v ∈ rl) := fun h => by cases hb.2 h
     exact ⟨fun h => this (.inl (.inl (.inr h))), fun h => this (.inl (.inr h)), fun h => this (.inr h)⟩
    refine X_cond rfl (fun _ => ?_) (fun h => by cases h)
    (repeat refine Z ?_)
    refine XO_lit (E' := eI .u64) [v] (hk := ?_)
    intro lb
    (repeat refine Z ?_)
    refine XO_dv (dv_append (E' := eI .u64) (xs := sx) (ys := [v]) (hv := Sl.view) (hb := by simp; omega)) (hk := ?_)
    rintro _ _ ⟨b1, d1, rfl, rfl⟩
    (repeat refine Z ?_)
    refine X_round (k + 1, sx ++ [v], b1, d1) ⟨by show k + 1 ≤ tl.length; omega, by show (sx ++ [v]).length ≤ 400 + (k + 1); simp; omega, fun u hu => ?_⟩ (by show tl.length - (k + 1) < tl.length - k; omega) (by exact SBs) (by ((try simp only [List.cons_append, List.nil_append]); repeat (first | exact ent_nil | exact ent_refl | refine ent_take (by repeat (first | exact Find.here | apply Find.there)) ?_ | refine ent_drop ?_)))
    rcases List.mem_append.1 hu with h2 | h2
    ·exact hS u h2
    ·rw [List.mem_singleton.1 h2]; exact ⟨hvt.1, hvt.2.1, hvt.2.2, hdr v hnot.1 hnot.2.1 hnot.2.2⟩
   | true =>
    refine X_cond rfl (fun h => by cases h) (fun _ => ?_)
    (repeat refine Z ?_)
    exact X_round (k + 1, sx, sa, sc) ⟨by show k + 1 ≤ tl.length; omega, by show sx.length ≤ 400 + (k + 1); omega, hS⟩ (by show tl.length - (k + 1) < tl.length - k; omega) (by exact SBs) (by ((try simp only [List.cons_append, List.nil_append]); repeat (first | exact ent_nil | exact ent_refl | refine ent_take (by repeat (first | exact Find.here | apply Find.there)) ?_ | refine ent_drop ?_)))
  clear hdr
  have hsl2 : sx.length ≤ 450 := by omega
  have hmm := ar_meter x z' hA
  have hml := m_ln z'
  generalize meterA z' = Mt at hmm hml
  (repeat refine Z ?_)
  refine XO_call hmm (hk := ?_)
  rintro _ _ ⟨rfl, rfl⟩
  (repeat refine Z ?_)
  refine XO_dv (dv_alloc (row := mtRow 0 0 0 0 0 0 0 0)) (hk := ?_)
  rintro _ _ ⟨mb, rfl, rfl⟩
  refine XO_dv0 (dv_storeW (vs := recCells mKs Mt)) (hk := ?_)
  rintro _ _ rfl
  (repeat refine Z ?_)
  refine X_loop (ι := Nat) (fun n => n ≤ sx.length) (fun n => [(0, .slice (some ⟨vb, vo, none⟩) xs.length c1), (5, .pointer (some ⟨x.a, 0, none⟩)), (6, .slice ta tl.length tc), (7, .slice sa sx.length sc), (8, .int .i64 (i : Int)), (22, .pointer (some ⟨mb, 0, none⟩)), (23, .int .i64 (n : Int))])
   (fun _ => [Arn x z', Sl (eI .u64) ta tc tl, Sl (eI .u64) sa sc sx, pt mb (.cells (recCells mKs Mt).toArray 51 (0, 0)), base W]) (fun n => sx.length - n) 0 (Nat.zero_le _) ?_ (by ((try simp only [List.cons_append, List.nil_append]); repeat (first | exact ent_nil | exact ent_refl | refine ent_take (by repeat (first | exact Find.here | apply Find.there)) ?_ | refine ent_drop ?_))) ?_
  ·exact SBs
  rintro n hn
  (repeat refine Z ?_)
  refine X_cond rfl (fun hc3 => ?_) (fun hc3 => ?_) <;> simp only [decide_eq_true_eq, decide_eq_false_iff_not] at hc3
  ·obtain ⟨h, hh⟩ : ∃ h, sx[n]? = some h := ⟨_, List.getElem?_eq_getElem (by omega)⟩
   obtain ⟨⟨h0, h1⟩, hz, -, hd1, hd2, hd3⟩ := hS h (List.mem_of_getElem? hh)
   have hget : sx[(n : Int).toNat]? = some h := by rw [Int.toNat_natCast]; exact hh
   have hin : inH z' h 0 ((0 : Nat) : Int) = (0, 2) := by unfold inH; rw [hd2]
   have hrd : rdE z' h 0 0 = 2 := by unfold rdE; rw [show inH z' h 0 0 = (0, 2) from hin]; rfl
   have s3 := ar_read_no x z' hA h 0 0 h0 h1 (by decide) (by decide) (by decide) (by decide) (by rw [hrd]; decide)
   rw [hrd] at s3
   have s5 := ar_write_no (base W) x z' hA h 0 none 0 0 (by decide) h0 h1 (by decide) (by decide) (by rw [hin]; decide)
   rw [hin] at s5
   refine X_slopen (E' := eI .u64) (a := sa) (c := sc) (xs := sx) (by exact FDs) (by omega) ?_
   rintro sb so rfl
   (repeat refine Z ?_)
   refine XO_call (ar_create_no x z' hA h h0 h1 hz hd1) (hk := ?_)
   rintro _ _ ⟨rfl, rfl⟩
   (repeat refine Z ?_)
   refine XO_call (ar_alloc_no x z' hA h 1 1 h0 h1 hd1) (hk := ?_)
   rintro _ _ ⟨rfl, rfl⟩
   (repeat refine Z ?_)
   refine XO_call s3 (hk := ?_)
   rintro _ _ ⟨rfl, rfl⟩
   (repeat refine Z ?_)
   refine XO_call (ar_mark_no x z' hA h h0 h1 hd1) (hk := ?_)
   rintro _ _ ⟨rfl, rfl⟩
   (repeat refine Z ?_)
   refine XO_call s5 (hk := ?_)
   rintro _ _ ⟨rfl, rfl⟩
   (repeat refine Z ?_)
   refine XO_call (ar_rewind_no x z' hA h h0 h1 hd3) (hk := ?_)
   rintro _ _ ⟨rfl, rfl⟩
   (repeat refine Z ?_)
   refine XO_call (ar_reset_no x z' hA h h0 h1 hd1) (hk := ?_)
   rintro _ _ ⟨rfl, rfl⟩
   (repeat refine Z ?_)
   refine XO_call (ar_free_no x z' hA.w h h0 h1 hd1) (hk := ?_)
   rintro _ _ ⟨rfl, rfl⟩
   (repeat refine Z ?_)
   refine X_cond rfl (fun h => by cases h) (fun _ => ?_)
   (repeat refine Z ?_)
   exact X_round (n + 1) (by show n + 1 ≤ sx.length; omega) (by show sx.length - (n + 1) < sx.length - n; omega) (by exact SBs) (by ((try simp only [List.cons_append, List.nil_append]); repeat (first | exact ent_nil | exact ent_refl | refine ent_take (by repeat (first | exact Find.here | apply Find.there)) ?_ | refine ent_drop ?_)))
  (repeat refine Z ?_)
  (repeat refine ZD ?_)
  refine XD_one (h := ?_)
  refine XDa_dvA (dv_call hmm) (hk := ?_)
  (rintro _ _ ⟨_, ⟨rfl, rfl⟩, rfl⟩; refine ⟨by exact KP, ?_⟩)
  (repeat refine ZD ?_)
  refine Dp (pv_neRec Mt Mt (lx := hml) (ly := hml)) ?_
  (repeat refine ZD ?_)
  refine XDi_known false (hb := by simp) (hT := ?_)
  (repeat refine ZD ?_)
  (refine XD_end (h := ?_); (repeat refine Z ?_))
  refine X_cond rfl (fun hg => ?_) (fun hg => ?_) <;> simp only [decide_eq_true_eq, decide_eq_false_iff_not] at hg
  ·(repeat refine Z ?_)
   (repeat refine ZD ?_)
   refine XD_one (h := ?_)
   refine XDa_dvA (dv_call hmm) (hk := ?_)
   (rintro _ _ ⟨_, ⟨rfl, rfl⟩, rfl⟩; refine ⟨by exact KP, ?_⟩)
   (repeat refine ZD ?_)
   refine Dp (pv_eqRec Mt Mt (lx := hml) (ly := hml)) ?_
   (repeat refine ZD ?_)
   (refine XD_one (h := ?_); refine XDa_dvA (dv_of_rv (rv_of_pv pv_assign)) (hk := ?_); rintro _ _ ⟨rfl, rfl⟩; refine ⟨by exact KP, ?_⟩)
   (refine XD_end (h := ?_); (repeat refine Z ?_))
   refine XE_ret (.inl rfl) (tells_tmps rfl rfl) ⟨_, ⟨?_, rfl⟩, by exact EN⟩
   exact congrArg Value.bool (decide_eq_true rfl)
  ·(repeat refine Z ?_)
   exact X_round ⟨i + 1, z', σ', tl, ta, tc, sx, sa, sc⟩ ⟨by show i + 1 ≤ xs.length; omega, hI', hB'.le (by show 3 * i + 3 ≤ 3 * (i + 1); omega), htl, hT, hS, by show sx.length ≤ 400; omega⟩ (by show xs.length - (i + 1) < xs.length - i; omega) (by exact SBs) (by ((try simp only [List.cons_append, List.nil_append]); repeat (first | exact ent_nil | exact ent_refl | refine ent_take (by repeat (first | exact Find.here | apply Find.there)) ?_ | refine ent_drop ?_)))
 (repeat refine Z ?_)
 refine XE_ret (.inl rfl) (tells_tmps rfl rfl) ⟨_, ⟨rfl, rfl⟩, by exact EN⟩
end Go.Proofs.YtamecmklcnohjaaGreat.Sep
