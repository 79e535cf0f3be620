import Derived.Test.YtmndddegnfbaaaaBn12
/- The law Law15B: it answers true whatever it is given, and what was there stays. No conditions. -/
namespace Go.Proofs.Ytmndddegnfbaaaa.Sep
open Go.RowKit
set_option linter.unusedSimpArgs false
set_option linter.unusedVariables false
/-! rewound up to a mark a region is as it was there -/
/-- There is room just if there is room where the same pages are got. -/
theorem room_same {C C' : Co} {m m' : Int → Int} {got got' : List (Int × Hd)} {n : Int} (h : KInv C m got) (h' : KInv C' m' got') (hP : C.P = C'.P) (hc : ∀ x, cnt x (gr got) = cnt x (gr got')) (hn : 1 ≤ n) (hcl : 0 ≤ cclass n → cpages (cclass n) = n) (hz : (getC C n).2.2 = 0) : (getC C' n).2.2 = 0 := by
  by_cases hz' : (getC C' n).2.2 = 0
  · exact hz'
  exfalso
  obtain ⟨g1, g2, g3, -⟩ := get_inv h.ci h.le hn hcl
  obtain ⟨r1, r2, -⟩ := g3 hz
  obtain ⟨-, -, f3⟩ := get_full h'.ci.ok hn hz'
  obtain ⟨-, t2, -⟩ := trim_inv h'.ci h'.le
  unfold RunOk at r1
  simp only at r1
  obtain ⟨r, hr, hr1, hr2⟩ := span (a := (getC C n).2.1) (b := (getC C n).2.1 + n) (by omega) (ktrim h').ci.ok.right (fun x h0 h1 => by
    have a1 := r2 x
    have a2 := cC_nn x (getC C n).1
    have a3 : ind x ((getC C n).2.1, n) = 1 := by unfold ind; rw [if_pos]; simp only; omega
    have a4 := h.part x
    have a5 := h'.part x
    have a6 := hc x
    have a7 : cC x (trimC C') = cnt x (trimC C').fr := by
      show cnt x (trimC C').fr + cnt x (kall (fun _ => []) 7) = _
      rw [kall_nil]; simp [cnt]
    have a8 := t2 x
    rw [hP] at a4
    omega)
  have := f3 r hr
  omega
theorem AR.of_fit {P : Int} {C C' : Co} {m m' : Mm} {s s' : Sh} {o size align at_ e : Int} {q : Int × Int × Int} (h : AR P C m s o size align C' m' s' at_ e) (hb : ¬ badA size align) (hf : fitI (topAt s) (topEnd s) size align = some q) : at_ = q.1 ∧ e = 0 ∧ C' = C ∧ m' = m := by
  cases h with
  | bad hb' => exact absurd hb' hb
  | fit q' _ hf' => rw [hf'] at hf; cases hf; exact ⟨rfl, rfl, rfl, rfl⟩
  | huge _ hf' _ => rw [hf'] at hf; cases hf
  | full n big _ hf' _ _ => rw [hf'] at hf; cases hf
  | big n pg _ hf' _ _ => rw [hf'] at hf; cases hf
  | part n pg _ hf' _ _ => rw [hf'] at hf; cases hf
theorem err_same {C C' : Co} {s : Sh} {size align : Int} (hC : CoOk C) (hC' : CoOk C') (h0 : 0 ≤ size) (h2 : 0 ≤ align) (hz : ∀ n, 1 ≤ n → (0 ≤ cclass n → cpages (cclass n) = n) → ((getC C n).2.2 = 0 ↔ (getC C' n).2.2 = 0)) : (allocS C s size align).2 = (allocS C' s size align).2 := by
  unfold allocS
  split
  · rfl
  · cases madeS s size align with
    | some s' => rfl
    | none =>
      dsimp only
      split
      · rfl
      · rename_i hok
        obtain ⟨n, big, ok, hch⟩ : ∃ n big ok, chunkI size align = (n, big, ok) := ⟨_, _, _, rfl⟩
        rw [hch] at hok ⊢
        have hok : ok = true := by simpa using hok
        subst hok
        obtain ⟨c1, c2, c3⟩ := chunk_n h0 h2 hch
        have := hz n c1 c2
        dsimp only
        unfold growS
        by_cases h : (getC C n).2.2 = 0
        · rw [if_pos h, if_pos (this.1 h)]
          cases big <;> rfl
        · have h' : ¬ (getC C' n).2.2 = 0 := fun hh => h (this.2 hh)
          rw [if_neg h, if_neg h']
          show (getC C n).2.2 = (getC C' n).2.2
          rw [(get_full hC c1 h).1, (get_full hC' c1 h').1]
set_option maxHeartbeats 8000000
attribute [local irreducible] X XE XO XD XDi XDa PV RV DV pt base Spec Sl Mp Keeps Pg Kc Pgs Spc Ck XL XLi Pl Rs Rg View
theorem back15 (a0 : Option Addr) (c0 : Nat) (xs : List A15) (a1 : Option Addr) (c1 : Nat) (ys : List A15) (size k : Int) (hok : ∀ x ∈ xs, OkA x) (hok2 : ∀ x ∈ ys, OkA x) (hl1 : xs.length ≤ maxLen) (hl2 : ys.length ≤ maxLen) (hsz : 0 ≤ size ∧ size ≤ 65535) (hk : 0 ≤ k ∧ k ≤ 255) (W : World) (V1 : View (base W) eAct a0 xs) (V2 : View (base W) eAct a1 ys) :
    Calls Try.prog 7 #[.slice a0 xs.length c0, .slice a1 ys.length c1, .int .u16 size, .int .u8 k] W fun e w' => e = .returned (.bool true) ∧ Below W.heap.size W w' := by
  refine law_intro (args := [.slice a0 xs.length c0, .slice a1 ys.length c1, .int .u16 size, .int .u8 k]) Try.func7 rfl Try.ntmps7 (by simp) ?_
  simp only [envOf, List.zipIdx, List.map, List.cons_append, List.nil_append, Nat.zero_add, Nat.reduceAdd]
  repeat (first | refine Zq ?_ | refine Zs ?_ | refine ZT ?_ | refine ZF ?_ | refine Zc ?_ | refine XO_gU (hk := ?_))
  refine XO_call awake15_spec (hk := ?_)
  rintro _ _ ⟨rfl, rfl⟩
  repeat (first | refine Zq ?_ | refine Zs ?_ | refine ZT ?_ | refine ZF ?_ | refine Zc ?_ | refine XO_gU (hk := ?_))
  refine X_cond rfl (fun h => by cases h) (fun _ => ?_)
  repeat (first | refine Zq ?_ | refine Zs ?_ | refine ZT ?_ | refine ZF ?_ | refine Zc ?_ | refine XO_gU (hk := ?_))
  refine XO_either (hT := fun h3 => ?_) (hF := fun h3 => ?_) <;> simp only [decide_eq_true_eq, decide_eq_false_iff_not] at h3
  · repeat (first | refine Zq ?_ | refine Zs ?_ | refine ZT ?_ | refine ZF ?_ | refine Zc ?_ | refine XO_gU (hk := ?_))
    refine X_cond rfl (fun _ => ?_) (fun h => by cases h)
    repeat (first | refine Zq ?_ | refine Zs ?_ | refine ZT ?_ | refine ZF ?_ | refine Zc ?_ | refine XO_gU (hk := ?_))
    refine XE_ret (.inl rfl) (tells_tmps rfl rfl) ⟨_, ⟨rfl, rfl⟩, by ((try simp only [List.cons_append, List.nil_append]); repeat (first | exact ent_refl | refine ent_take (by repeat (first | exact Find.here | apply Find.there)) ?_ | refine ent_drop ?_))⟩
  repeat (first | refine Zq ?_ | refine Zs ?_ | refine ZT ?_ | refine ZF ?_ | refine Zc ?_ | refine XO_gU (hk := ?_))
  refine X_cond rfl (fun h4 => ?_) (fun h4 => ?_) <;> simp only [decide_eq_true_eq, decide_eq_false_iff_not] at h4
  · repeat (first | refine Zq ?_ | refine Zs ?_ | refine ZT ?_ | refine ZF ?_ | refine Zc ?_ | refine XO_gU (hk := ?_))
    refine XE_ret (.inl rfl) (tells_tmps rfl rfl) ⟨_, ⟨rfl, rfl⟩, by ((try simp only [List.cons_append, List.nil_append]); repeat (first | exact ent_refl | refine ent_take (by repeat (first | exact Find.here | apply Find.there)) ?_ | refine ent_drop ?_))⟩
  repeat (first | refine Zq ?_ | refine Zs ?_ | refine ZT ?_ | refine ZF ?_ | refine Zc ?_ | refine XO_gU (hk := ?_))
  refine XO_call (knew_spec 3000) (hk := ?_)
  rintro _ _ ⟨s, sb, rfl, rfl⟩
  have hr0 : RInv 3000 0 3 ⟨3000, [(0, 3000)], fun _ => [], 0⟩ (⟨fun _ => 0, 0⟩ : Mm).f emptySh [] := emptyInv (by decide) (by decide) 3
  generalize hm0 : (⟨fun _ => 0, 0⟩ : Mm) = m0 at hr0 ⊢
  repeat (first | refine Zq ?_ | refine Zs ?_ | refine ZT ?_ | refine ZF ?_ | refine Zc ?_ | refine XO_gU (hk := ?_))
  refine XO_call (rnew_spec s 3) (hk := ?_)
  rintro _ _ ⟨r, rfl, rfl⟩
  repeat (first | refine Zq ?_ | refine Zs ?_ | refine ZT ?_ | refine ZF ?_ | refine Zc ?_ | refine XO_gU (hk := ?_))
  refine XO_call (play_spec r s sb (base W) a0 c0 xs V1 hok (by omega) (by decide) (fun _ _ _ _ => True) (fun _ _ _ _ _ _ _ _ _ _ _ _ _ _ _ _ => trivial) hr0 trivial) (hk := ?_)
  rintro _ _ ⟨rfl, C, m, S, hR, -, rfl⟩
  clear hr0
  have hlen := hR.len
  have hbd := hR.bd
  have htb := top_bd hR.S.ok
  have hab := al2_bd hk.1
  have hml : (S.parts.map runP).length = S.parts.length := List.length_map ..
  have hrl : (S.parts.map runP).reverse.length = S.parts.length := by rw [List.length_reverse, hml]
  have hrl2 : S.larges.reverse.length = S.larges.length := List.length_reverse
  repeat (first | refine Zq ?_ | refine Zs ?_ | refine ZT ?_ | refine ZF ?_ | refine Zc ?_ | refine XO_gU (hk := ?_))
  refine XO_call (rmark_spec r s 3 S hlen.1 hlen.2) (hk := ?_)
  rintro _ _ ⟨rfl, rfl⟩
  repeat (first | refine Zq ?_ | refine Zs ?_ | refine ZT ?_ | refine ZF ?_ | refine Zc ?_ | refine XO_gU (hk := ?_))
  refine XO_dv (dv_alloc (row := [.int .i64 0, .int .i64 0, .int .u64 0, .int .u64 0, .int .u64 0])) (hk := ?_)
  rintro _ _ ⟨kb, rfl, rfl⟩
  refine XO_dv0 (dv_storeW (vs := [.int .i64 (S.parts.length : Int), .int .i64 (S.larges.length : Int), .int .u64 (topAt S), .int .u64 S.obj, .int .u64 S.pad])) (hk := ?_)
  rintro _ _ rfl
  repeat (first | refine Zq ?_ | refine Zs ?_ | refine ZT ?_ | refine ZF ?_ | refine Zc ?_ | refine XO_gU (hk := ?_))
  refine XO_call (rmeter_spec r s 3 S hlen.1 hlen.2 hbd.1 hbd.2) (hk := ?_)
  rintro _ _ ⟨rfl, rfl⟩
  repeat (first | refine Zq ?_ | refine Zs ?_ | refine ZT ?_ | refine ZF ?_ | refine Zc ?_ | refine XO_gU (hk := ?_))
  refine XO_dv (dv_alloc (row := [.int .i64 0, .int .i64 0, .int .i64 0, .int .i64 0, .int .u64 0, .int .u64 0, .int .u64 0, .int .u64 0])) (hk := ?_)
  rintro _ _ ⟨mb, rfl, rfl⟩
  refine XO_dv0 (dv_storeW (vs := [.int .i64 (shPages S), .int .i64 0, .int .i64 0, .int .i64 0, .int .u64 S.obj, .int .u64 S.pad, .int .u64 (shHdr S), .int .u64 (IntKind.u64.wrap (shPages S * 4096 - shHdr S - S.obj - S.pad))])) (hk := ?_)
  rintro _ _ rfl
  repeat (first | refine Zq ?_ | refine Zs ?_ | refine ZT ?_ | refine ZF ?_ | refine Zc ?_ | refine XO_gU (hk := ?_))
  refine XO_call (rchunks_spec r s sb hR) (hk := ?_)
  rintro _ _ ⟨ca, cc, da, dc, rfl, rfl⟩
  have hR1 := hR.walk (S.parts.map runP) S.larges
  clear hR
  generalize walkM 3000 (walkM 3000 m (S.parts.map runP)) S.larges = m1 at hR1 ⊢
  repeat (first | refine Zq ?_ | refine Zs ?_ | refine ZT ?_ | refine ZF ?_ | refine Zc ?_ | refine XO_gU (hk := ?_))
  refine XO_pv (pv_shlN (b := k % 13) (hw := al2_shl hk.1)) (hk := ?_)
  repeat (first | refine Zq ?_ | refine Zs ?_ | refine ZT ?_ | refine ZF ?_ | refine Zc ?_ | refine XO_gU (hk := ?_))
  refine XO_call (rfits_spec r s 3 S size (al2 k) hR1.S.ok hlen.1 (by omega) (by omega) (by omega) (by omega)) (hk := ?_)
  rintro _ _ ⟨rfl, rfl⟩
  repeat (first | refine Zq ?_ | refine Zs ?_ | refine ZT ?_ | refine ZF ?_ | refine Zc ?_ | refine XO_gU (hk := ?_))
  obtain ⟨C2, m2, S2, at2, e2, har⟩ := AR.ex 3000 C m1 S 3 size (al2 k)
  have hR2 := har.inv hR1 (by decide) (by omega) (by omega) (by omega)
  have hg2 := har.grow hR1 (by decide) (by omega) (by omega) (by omega) (Grow.refl S)
  refine XO_call (ralloc_spec r s sb hR1 (by decide) (by omega) (by omega) (by omega) (by omega) har) (hk := ?_)
  rintro _ _ ⟨rfl, rfl⟩
  repeat (first | refine Zq ?_ | refine Zs ?_ | refine ZT ?_ | refine ZF ?_ | refine Zc ?_ | refine XO_gU (hk := ?_))
  refine XO_call (play_spec r s sb (base W) a1 c1 ys V2 hok2 (by omega) (by decide) (fun _ _ _ S' => Grow S S') (fun i x B C m S1 C' m' S' at_ e hx hxi hRi hgi hari => by
    have h1 := hx.sz
    have h2 := al2_bd hx.k.1
    exact hari.grow hRi (by decide) (by omega) (by omega) (by omega) hgi) hR2 hg2) (hk := ?_)
  rintro _ _ ⟨rfl, C3, m3, S3, hR3, hg3, rfl⟩
  obtain ⟨hfit, hback⟩ := grow_fits hg3 hR1.curOk
  have hs4 := rrew_ok r s sb (ob := S.obj) (pd := S.pad) hR3 hfit htb.1 htb.2.1
  have hR4 := rew_inv (ob := S.obj) (pd := S.pad) hR3 hfit htb.1 hR1.S.ok.obj hR1.S.ok.pad
  rw [hback] at hs4 hR4
  generalize putsC C3 S3 S.parts.length S.larges.length = C4 at hs4 hR4
  generalize rewM 3000 m3 S3 S.parts.length S.larges.length (topAt S) = m4 at hs4 hR4
  repeat (first | refine Zq ?_ | refine Zs ?_ | refine ZT ?_ | refine ZF ?_ | refine Zc ?_ | refine XO_gU (hk := ?_))
  refine XO_call hs4 (hk := ?_)
  rintro _ _ ⟨rfl, rfl⟩
  clear hs4 hR3 hg3 hfit hback hR2 hg2
  repeat (first | refine Zq ?_ | refine Zs ?_ | refine ZT ?_ | refine ZF ?_ | refine Zc ?_ | refine XO_gU (hk := ?_))
  refine X_cond rfl (fun h => by cases h) (fun _ => ?_)
  repeat (first | refine Zq ?_ | refine Zs ?_ | refine ZT ?_ | refine ZF ?_ | refine Zc ?_ | refine XO_gU (hk := ?_))
  refine XO_call (rchunks_spec r s sb hR4) (hk := ?_)
  rintro _ _ ⟨ea, ec, fa, fc, rfl, rfl⟩
  have hR5 := hR4.walk (S.parts.map runP) S.larges
  clear hR4
  generalize walkM 3000 (walkM 3000 m4 (S.parts.map runP)) S.larges = m5 at hR5 ⊢
  repeat (first | refine Zq ?_ | refine Zs ?_ | refine ZT ?_ | refine ZF ?_ | refine Zc ?_ | refine XO_gU (hk := ?_))
  repeat (first | refine XD_pick (h := ?_) | refine Dq ?_ | refine Ds ?_ | refine XDi_gF (h := ?_) | refine XDi_gU (h := ?_) | refine X_draws (h := ?_))
  refine XD_one (h := ?_)
  refine XDa_dvA (dv_call (rmark_spec r s 3 S hlen.1 hlen.2)) (hk := ?_)
  (rintro _ _ ⟨_, ⟨rfl, rfl⟩, rfl⟩; refine ⟨by (repeat (first | exact keeps_nil | exact keeps_fnil | refine keeps_skip (h := ?_) | refine keeps_takeQ (h := ?_))), ?_⟩)
  repeat (first | refine XD_pick (h := ?_) | refine Dq ?_ | refine Ds ?_ | refine XDi_gF (h := ?_) | refine XDi_gU (h := ?_) | refine X_draws (h := ?_))
  refine Dp (pv_neRec [(S.parts.length : Int), (S.larges.length : Int), topAt S, S.obj, S.pad] [(S.parts.length : Int), (S.larges.length : Int), topAt S, S.obj, S.pad]) ?_
  repeat (first | refine XD_pick (h := ?_) | refine Dq ?_ | refine Ds ?_ | refine XDi_gF (h := ?_) | refine XDi_gU (h := ?_) | refine X_draws (h := ?_))
  refine XDi_known false (hb := by simp) (hT := ?_)
  repeat (first | refine XD_pick (h := ?_) | refine Dq ?_ | refine Ds ?_ | refine XDi_gF (h := ?_) | refine XDi_gU (h := ?_) | refine X_draws (h := ?_))
  refine XD_one (h := ?_)
  refine XDa_dvA (dv_call (rmeter_spec r s 3 S hlen.1 hlen.2 hbd.1 hbd.2)) (hk := ?_)
  (rintro _ _ ⟨_, ⟨rfl, rfl⟩, rfl⟩; refine ⟨by (repeat (first | exact keeps_nil | exact keeps_fnil | refine keeps_skip (h := ?_) | refine keeps_takeQ (h := ?_))), ?_⟩)
  repeat (first | refine XD_pick (h := ?_) | refine Dq ?_ | refine Ds ?_ | refine XDi_gF (h := ?_) | refine XDi_gU (h := ?_) | refine X_draws (h := ?_))
  refine Dp (pv_neRec [shPages S, 0, 0, 0, S.obj, S.pad, shHdr S, IntKind.u64.wrap (shPages S * 4096 - shHdr S - S.obj - S.pad)] [shPages S, 0, 0, 0, S.obj, S.pad, shHdr S, IntKind.u64.wrap (shPages S * 4096 - shHdr S - S.obj - S.pad)]) ?_
  repeat (first | refine XD_pick (h := ?_) | refine Dq ?_ | refine Ds ?_ | refine XDi_gF (h := ?_) | refine XDi_gU (h := ?_) | refine X_draws (h := ?_))
  refine XDi_known false (hb := by simp) (hT := ?_)
  repeat (first | refine XD_pick (h := ?_) | refine Dq ?_ | refine Ds ?_ | refine XDi_gF (h := ?_) | refine XDi_gU (h := ?_) | refine X_draws (h := ?_))
  have q1 := same05_spec (Sl eRun ca cc (S.parts.map runP).reverse) (Sl eRun ea ec (S.parts.map runP).reverse) ca ea cc ec (S.parts.map runP).reverse (S.parts.map runP).reverse Sl.view Sl.view (by omega)
  rw [decide_eq_true rfl] at q1
  refine XD_one (h := ?_)
  refine XDa_dvA (dv_call q1) (hk := ?_)
  (rintro _ _ ⟨_, ⟨rfl, rfl⟩, rfl⟩; refine ⟨by (repeat (first | exact keeps_nil | exact keeps_fnil | refine keeps_skip (h := ?_) | refine keeps_takeQ (h := ?_))), ?_⟩)
  repeat (first | refine XD_pick (h := ?_) | refine Dq ?_ | refine Ds ?_ | refine XDi_gF (h := ?_) | refine XDi_gU (h := ?_) | refine X_draws (h := ?_))
  (try refine XDi_known false (hb := rfl) (hT := ?_))
  repeat (first | refine XD_pick (h := ?_) | refine Dq ?_ | refine Ds ?_ | refine XDi_gF (h := ?_) | refine XDi_gU (h := ?_) | refine X_draws (h := ?_))
  have q2 := same05_spec (Sl eRun da dc S.larges.reverse) (Sl eRun fa fc S.larges.reverse) da fa dc fc S.larges.reverse S.larges.reverse Sl.view Sl.view (by omega)
  rw [decide_eq_true rfl] at q2
  refine XD_one (h := ?_)
  refine XDa_dvA (dv_call q2) (hk := ?_)
  (rintro _ _ ⟨_, ⟨rfl, rfl⟩, rfl⟩; refine ⟨by (repeat (first | exact keeps_nil | exact keeps_fnil | refine keeps_skip (h := ?_) | refine keeps_takeQ (h := ?_))), ?_⟩)
  repeat (first | refine XD_pick (h := ?_) | refine Dq ?_ | refine Ds ?_ | refine XDi_gF (h := ?_) | refine XDi_gU (h := ?_) | refine X_draws (h := ?_))
  (try refine XDi_known false (hb := rfl) (hT := ?_))
  repeat (first | refine XD_pick (h := ?_) | refine Dq ?_ | refine Ds ?_ | refine XDi_gF (h := ?_) | refine XDi_gU (h := ?_) | refine X_draws (h := ?_))
  refine XD_one (h := ?_)
  refine XDa_dvA (dv_call (rfits_spec r s 3 S size (al2 k) hR5.S.ok hlen.1 (by omega) (by omega) (by omega) (by omega))) (hk := ?_)
  (rintro _ _ ⟨_, ⟨rfl, rfl⟩, rfl⟩; refine ⟨by (repeat (first | exact keeps_nil | exact keeps_fnil | refine keeps_skip (h := ?_) | refine keeps_takeQ (h := ?_))), ?_⟩)
  repeat (first | refine XD_pick (h := ?_) | refine Dq ?_ | refine Ds ?_ | refine XDi_gF (h := ?_) | refine XDi_gU (h := ?_) | refine X_draws (h := ?_))
  (refine XD_end (h := ?_); repeat (first | refine Zq ?_ | refine Zs ?_ | refine ZT ?_ | refine ZF ?_ | refine Zc ?_ | refine XO_gU (hk := ?_)))
  refine X_cond rfl (fun h5 => ?_) (fun _ => ?_)
  · exfalso
    simp at h5
  obtain ⟨C6, m6, S6, at6, e6, har6⟩ := AR.ex 3000 C4 m5 S 3 size (al2 k)
  have hee : e2 = e6 := by
    have s1 := har.shadow hR1 (by decide) (by omega) (by omega) (by omega)
    have s2 := har6.shadow hR5 (by decide) (by omega) (by omega) (by omega)
    have hcc : ∀ x, cnt x (gr (gotR 3 S ++ [])) = cnt x (gr (gotR 3 S ++ [])) := fun _ => rfl
    have h1 := err_same (size := size) (align := al2 k) (s := S) hR1.K.ci.ok hR5.K.ci.ok (by omega) (by omega) (fun n hn hcl => ⟨room_same hR1.K hR5.K (hR1.hP.trans hR5.hP.symm) hcc hn hcl, room_same hR5.K hR1.K (hR5.hP.trans hR1.hP.symm) hcc hn hcl⟩)
    rw [s1, s2] at h1
    exact h1
  repeat (first | refine Zq ?_ | refine Zs ?_ | refine ZT ?_ | refine ZF ?_ | refine Zc ?_ | refine XO_gU (hk := ?_))
  refine XO_call (ralloc_spec r s sb hR5 (by decide) (by omega) (by omega) (by omega) (by omega) har6) (hk := ?_)
  rintro _ _ ⟨rfl, rfl⟩
  repeat (first | refine Zq ?_ | refine Zs ?_ | refine ZT ?_ | refine ZF ?_ | refine Zc ?_ | refine XO_gU (hk := ?_))
  refine XO_known true (hb := by simp [hee]) (hk := ?_)
  repeat (first | refine Zq ?_ | refine Zs ?_ | refine ZT ?_ | refine ZF ?_ | refine Zc ?_ | refine XO_gU (hk := ?_))
  refine XO_either (hT := fun h5 => ?_) (hF := fun h5 => ?_)
  · repeat (first | refine Zq ?_ | refine Zs ?_ | refine ZT ?_ | refine ZF ?_ | refine Zc ?_ | refine XO_gU (hk := ?_))
    refine XE_ret (.inl rfl) (tells_tmps rfl rfl) ⟨_, ⟨?_, rfl⟩, (by simp only [List.cons_append, List.nil_append]; refine ent_take (by (repeat (first | exact Find.here | apply Find.there))) ?_; repeat (first | exact ent_refl | refine ent_drop ?_))⟩
    rfl
  · repeat (first | refine Zq ?_ | refine Zs ?_ | refine ZT ?_ | refine ZF ?_ | refine Zc ?_ | refine XO_gU (hk := ?_))
    refine XE_ret (.inl rfl) (tells_tmps rfl rfl) ⟨_, ⟨?_, rfl⟩, (by simp only [List.cons_append, List.nil_append]; refine ent_take (by (repeat (first | exact Find.here | apply Find.there))) ?_; repeat (first | exact ent_refl | refine ent_drop ?_))⟩
    have hat : at2 = at6 := by
      simp only [Bool.not_eq_false', Bool.and_eq_true, decide_eq_true_eq] at h5
      obtain ⟨hb, hs⟩ := h5
      cases hf : fitI (topAt S) (topEnd S) size (al2 k) with
      | none => rw [hf] at hs; cases hs
      | some q => rw [(har.of_fit hb hf).1, (har6.of_fit hb hf).1]
    exact congrArg Value.bool (by simp [hat])
end Go.Proofs.Ytmndddegnfbaaaa.Sep
