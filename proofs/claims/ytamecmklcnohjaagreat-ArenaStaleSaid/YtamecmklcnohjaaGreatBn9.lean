import Derived.Test.YtamecmklcnohjaaGreatBn8
import Derived.Test.YtamecmklcnohjaaGreatBn3
import Derived.Test.YtamecmklcnohjaaGreatBn4
import Derived.Test.YtamecmklcnohjaaGreatBn6
import Derived.Test.YtamecmklcnohjaaGreatBn7
/- What the laws share: a separation logic over the model, and what the program's functions do, by it. Part 9 of 15: PileA PileB PileC PileD Bits Classes Bump Sh ShInv RegP RegQ RegR. -/
namespace Go.Proofs.YtamecmklcnohjaaGreat.Sep
open Go.RowKit
set_option linter.unusedSimpArgs false
set_option linter.unusedVariables false
def Pl (p s : Nat) (k o : Int) (rs : List (Int × Int)) : HP := fun H => ∃ x : Option Addr × Nat, SL [pt p (.cells [.pointer (some ⟨s, 0, none⟩), .int .i64 k, .int .u64 o, .slice x.1 rs.length x.2].toArray 200 (0, 0)), Sl eRun x.1 x.2 rs] H
theorem Pl.open {p s : Nat} {k o : Int} {rs : List (Int × Int)} : ∀ H, Pl p s k o rs H → ∃ x : Option Addr × Nat, True ∧ SL [pt p (.cells [.pointer (some ⟨s, 0, none⟩), .int .i64 k, .int .u64 o, .slice x.1 rs.length x.2].toArray 200 (0, 0)), Sl eRun x.1 x.2 rs] H := fun H ⟨x, h⟩ => ⟨x, trivial, h⟩
theorem Pl.fold {p s c : Nat} {k o : Int} {rs : List (Int × Int)} {a : Option Addr} : ∀ H, SL [pt p (.cells [.pointer (some ⟨s, 0, none⟩), .int .i64 k, .int .u64 o, .slice a rs.length c].toArray 200 (0, 0)), Sl eRun a c rs] H → Pl p s k o rs H := fun H h => ⟨(a, c), h⟩
set_option maxHeartbeats 8000000
attribute [local irreducible] X XE XO XD XDi XDa PV RV DV pt base Spec Sl Mp Keeps Pg Kc Pgs Spc Ck XL XLi Pl
theorem wfits0_spec : Spec Tryz.prog 198 [.int .u64 0, .int .i64 8] [] (fun v L => v = .bool true ∧ L = []) := by
  refine Spec.intro (IsEnt.out) Tryz.func198 rfl Tryz.ntmps198 (by simp) (fun w0 F => ?_)
  simp only [envOf, List.zipIdx, List.map, List.cons_append, List.nil_append, Nat.zero_add, Nat.reduceAdd]
  (repeat refine Z ?_)
  refine XO_call (wide_spec 8 (by decide)) (hk := ?_)
  rintro _ _ ⟨rfl, rfl⟩
  (repeat refine Z ?_)
  refine XO_pv pv_shrN (hk := ?_)
  (repeat refine Z ?_)
  refine XO_pv pv_shrN (hk := ?_)
  (repeat refine Z ?_)
  refine XE_ret (.inl rfl) (tells_tmps rfl rfl) ⟨_, ⟨?_, rfl⟩, by exact EN⟩
  rfl
theorem cright_spec (a : Int) (h0 : 0 ≤ a) (h8 : a % 8 = 0) : Spec Tryz.prog 188 [.int .u64 a, .int .i64 8] [] (fun v L => v = .bool true ∧ L = []) := by
  refine Spec.intro (IsEnt.out) Tryz.func188 rfl Tryz.ntmps188 (by simp) (fun w0 F => ?_)
  simp only [envOf, List.zipIdx, List.map, List.cons_append, List.nil_append, Nat.zero_add, Nat.reduceAdd]
  (repeat refine Z ?_)
  refine XO_call wfits0_spec (hk := ?_)
  rintro _ _ ⟨rfl, rfl⟩
  (repeat refine Z ?_)
  refine XE_ret (.inl rfl) (tells_tmps rfl rfl) ⟨_, ⟨?_, rfl⟩, by exact EN⟩
  exact congrArg Value.bool (by simp [h8])
theorem cput_spec (sb : Nat) (P : Int) (m : Mm) (a n : Int) (hP0 : 0 ≤ P) (hP : P ≤ 1048576) (h0 : 0 ≤ a) (h8 : a % 8 = 0) (h1 : a + 8 ≤ P * 4096) :
    Spec Tryz.prog 161 [.pointer (some ⟨sb, 0, none⟩), .int .u64 a, .int .i64 8, .int .u64 n] [Spc sb P m] (fun v L => v = .int .i64 0 ∧ L = [Spc sb P (stM m a (leB 8 n))]) := by
  refine Spec.intro (IsEnt.out) Tryz.func161 rfl Tryz.ntmps161 (by simp) (fun w0 F => ?_)
  simp only [envOf, List.zipIdx, List.map, List.cons_append, List.nil_append, Nat.zero_add, Nat.reduceAdd]
  (repeat refine Z ?_)
  refine XO_call (cright_spec a h0 h8) (hk := ?_)
  rintro _ _ ⟨rfl, rfl⟩
  (repeat refine Z ?_)
  refine X_cond rfl (fun h => by cases h) (fun _ => ?_)
  (repeat refine Z ?_)
  refine XO_lit (E' := eI .u64) [n] (hk := ?_)
  intro lb
  (repeat refine Z ?_)
  refine XO_call (wbytes_spec (Sl (eI .u64) (some ⟨lb, 0, none⟩) [n].length [n]) (some ⟨lb, 0, none⟩) [n].length [n] 8 (by decide) (by simp) Sl.view) (hk := ?_)
  rintro _ _ ⟨b, rfl, rfl⟩
  have e : bsOf (8 : Int).toNat [n] = leB 8 n := by show leB 8 n ++ [] = _; rw [List.append_nil]
  rw [e]
  (repeat refine Z ?_)
  have hs := Store_spec (Sl (eI .u8) (some ⟨b, 0, none⟩) (leB 8 n).length (leB 8 n)) sb (leB 8 n).length (some ⟨b, 0, none⟩) P m a (leB 8 n) Sl.view (leB_byt 8 n) (Nat.le_refl _) (by rw [leB_len]; decide) hP0 hP h0 (by omega)
  unfold storeV at hs
  rw [if_pos (by unfold fitsI; rw [leB_len, if_pos (by omega), if_neg (by omega)])] at hs
  refine XO_call hs (hk := ?_)
  rintro _ _ ⟨rfl, rfl⟩
  (repeat refine Z ?_)
  refine XE_ret (.inl rfl) (tells_tmps rfl rfl) ⟨_, ⟨rfl, rfl⟩, by exact EN⟩
theorem hlink_ok (sb : Nat) {C : Co} {m : Mm} {l1 l2 : List (Int × Hd)} {P p : Int} {hd : Hd} (next : Int) (hK : KInv C m.f (l1 ++ (p, hd) :: l2)) (hP : C.P = P) :
    Spec Tryz.prog 118 [.pointer (some ⟨sb, 0, none⟩), .int .i64 p, .int .u64 next] [Spc sb P m] (fun v L => v = .int .i64 0 ∧ L = [Spc sb P (lkM P m p next)]) := by
  refine Spec.intro (IsEnt.out) Tryz.func118 rfl Tryz.ntmps118 (by simp) (fun w0 F => ?_)
  have hr : RunOk C.P (p, hd.pages) := hK.run (p, hd) (by simp)
  have hP1 := hK.ci.ok.p1
  have hP2 := hK.ci.ok.p2
  rw [hP] at hr hP1 hP2
  unfold RunOk at hr
  simp only at hr
  simp only [envOf, List.zipIdx, List.map, List.cons_append, List.nil_append, Nat.zero_add, Nat.reduceAdd]
  (repeat refine Z ?_)
  refine XO_call (hread_ok sb hK hP) (hk := ?_)
  rintro _ _ ⟨rfl, rfl⟩
  (repeat refine Z ?_)
  refine XO_dv (dv_alloc (row := [.int .i64 0, .int .i64 0, .int .u64 0, .int .u64 0])) (hk := ?_)
  rintro _ _ ⟨hb, rfl, rfl⟩
  refine XO_dv0 (dv_storeW (vs := [.int .i64 hd.pages, .int .i64 hd.kind, .int .u64 hd.owner, .int .u64 hd.next])) (hk := ?_)
  rintro _ _ rfl
  (repeat refine Z ?_)
  refine X_cond rfl (fun h => by cases h) (fun _ => ?_)
  (repeat refine Z ?_)
  refine XO_call (hat_spec sb P (hrM P m p) p (by omega) hP2) (hk := ?_)
  rintro _ _ ⟨rfl, rfl⟩
  rw [show hatI P p = p * 4096 from by unfold hatI; rw [if_pos (by omega)]]
  (repeat refine Z ?_)
  refine XO_call (cput_spec sb P (hrM P m p) (p * 4096 + 24) next (by omega) hP2 (by omega) (by omega) (by omega)) (hk := ?_)
  rintro _ _ ⟨rfl, rfl⟩
  (repeat refine Z ?_)
  refine XE_ret (.inl rfl) (tells_tmps rfl rfl) ⟨_, ⟨rfl, rfl⟩, by exact EN⟩
theorem plen_spec (p s : Nat) (k o : Int) (rs : List (Int × Int)) : Spec Tryz.prog 72 [.pointer (some ⟨p, 0, none⟩)] [Pl p s k o rs] (fun v L => v = .int .i64 (rs.length : Int) ∧ L = [Pl p s k o rs]) := by
  refine Spec.intro (IsEnt.out) Tryz.func72 rfl Tryz.ntmps72 (by simp) (fun w0 F => ?_)
  simp only [envOf, List.zipIdx, List.map, List.cons_append, List.nil_append, Nat.zero_add, Nat.reduceAdd]
  (repeat refine Z ?_)
  refine X_cond rfl (fun h => by cases h) (fun _ => ?_)
  refine X_open .here Pl.open ?_
  rintro ⟨a, c⟩ -
  dsimp only [List.cons_append, List.nil_append]
  (repeat refine Z ?_)
  refine XE_fold (by exact FAs) Pl.fold ?_
  refine XE_ret (.inl rfl) (tells_tmps rfl rfl) ⟨_, ⟨rfl, rfl⟩, by exact EN⟩
def topR : List (Int × Int) → (Int × Int) × Bool
  | [] => ((0, 0), false)
  | r :: l => ((r :: l).getD l.length (0, 0), true)
theorem topR_snoc (l : List (Int × Int)) (r : Int × Int) : topR (l ++ [r]) = (r, true) := by
  cases l with
  | nil => rfl
  | cons x l => show (((x :: (l ++ [r])).getD (l ++ [r]).length (0, 0)), true) = _; simp [List.getD]
theorem ptop_spec (p s : Nat) (k o : Int) (rs : List (Int × Int)) (hl : rs.length ≤ 4611686018427387904) : Spec Tryz.prog 163 [.pointer (some ⟨p, 0, none⟩)] [Pl p s k o rs] (fun v L => v = .tuple #[eRun.val (topR rs).1, .bool (topR rs).2] ∧ L = [Pl p s k o rs]) := by
  refine Spec.intro (IsEnt.out) Tryz.func163 rfl Tryz.ntmps163 (by simp) (fun w0 F => ?_)
  simp only [envOf, List.zipIdx, List.map, List.cons_append, List.nil_append, Nat.zero_add, Nat.reduceAdd]
  (repeat refine Z ?_)
  refine XO_dv (dv_alloc (row := [.int .i64 0, .int .i64 0])) (hk := ?_)
  rintro _ _ ⟨rb, rfl, rfl⟩
  (repeat refine Z ?_)
  refine XO_call (plen_spec p s k o rs) (hk := ?_)
  rintro _ _ ⟨rfl, rfl⟩
  (repeat refine Z ?_)
  rcases List.eq_nil_or_concat rs with rfl | ⟨l, r, rfl⟩
  · refine X_cond rfl (fun _ => ?_) (fun h => by cases h)
    (repeat refine Z ?_)
    refine XO_dv0 (dv_storeW (vs := [.int .i64 0, .int .i64 0])) (hk := ?_)
    rintro _ _ rfl
    (repeat refine Z ?_)
    refine XE_ret (.inl rfl) (tells_many (rs := [.cell _ _, .tmp _]) (vs := [_, _]) rfl ⟨told_cell, told_tmp, trivial⟩) ⟨_, ⟨rfl, rfl⟩, by exact EN⟩
  · rw [List.concat_eq_append] at hl ⊢
    rw [topR_snoc]
    have hll : (l ++ [r]).length = l.length + 1 := by simp
    refine X_cond rfl (fun h => ?_) (fun _ => ?_)
    · exfalso
      simp only [beq_iff_eq] at h
      omega
    refine X_open (A := Pl p s k o (l ++ [r])) (by exact FDs) Pl.open ?_
    rintro ⟨a, c⟩ -
    dsimp only [List.cons_append, List.nil_append]
    refine X_slopen (E' := eRun) (a := a) (c := c) (xs := l ++ [r]) (by exact FDs) (by omega) ?_
    rintro b oo rfl
    have hg : (l ++ [r])[(((l ++ [r]).length : Int) - 1).toNat]? = some r := by
      rw [hll, show (((l.length + 1 : Nat) : Int) - 1).toNat = l.length from by omega]; simp
    (repeat refine Z ?_)
    (repeat refine ZD ?_)
    refine XD_one (h := ?_)
    refine XDa_dvk0 (dv_storeW (vs := [.int .i64 r.1, .int .i64 r.2])) (K := _) (hk := ?_)
    (rintro _ _ rfl; refine ⟨by exact KP, ?_⟩)
    (repeat refine ZD ?_)
    (refine XD_one (h := ?_); refine XDa_dvA (dv_of_rv (rv_of_pv pv_assign)) (hk := ?_); rintro _ _ ⟨rfl, rfl⟩; refine ⟨by exact KP, ?_⟩)
    (refine XD_end (h := ?_); (repeat refine Z ?_))
    refine XE_fold (by exact FAs) Pl.fold ?_
    refine XE_ret (.inl rfl) (tells_many (rs := [.cell _ _, .tmp _]) (vs := [_, _]) rfl ⟨told_cell, told_tmp, trivial⟩) ⟨_, ⟨rfl, rfl⟩, by exact EN⟩
theorem plink_spec (p s : Nat) (k o : Int) (rs : List (Int × Int)) (hl : rs.length ≤ 4611686018427387904) (hb : ∀ r ∈ rs, 0 ≤ r.1 ∧ r.1 ≤ 1048576) : Spec Tryz.prog 119 [.pointer (some ⟨p, 0, none⟩)] [Pl p s k o rs] (fun v L => v = .int .u64 (lastL 0 rs) ∧ L = [Pl p s k o rs]) := by
  refine Spec.intro (IsEnt.out) Tryz.func119 rfl Tryz.ntmps119 (by simp) (fun w0 F => ?_)
  simp only [envOf, List.zipIdx, List.map, List.cons_append, List.nil_append, Nat.zero_add, Nat.reduceAdd]
  (repeat refine Z ?_)
  have ht := ptop_spec p s k o rs hl
  rcases List.eq_nil_or_concat rs with rfl | ⟨l, r, rfl⟩
  · refine XO_call ht (hk := ?_)
    rintro _ _ ⟨rfl, rfl⟩
    (repeat refine Z ?_)
    refine XO_dv (dv_alloc (row := [.int .i64 0, .int .i64 0])) (hk := ?_)
    rintro _ _ ⟨rb, rfl, rfl⟩
    refine XO_dv0 (dv_storeW (vs := [.int .i64 0, .int .i64 0])) (hk := ?_)
    rintro _ _ rfl
    (repeat refine Z ?_)
    refine X_cond rfl (fun _ => ?_) (fun h => by cases h)
    (repeat refine Z ?_)
    refine XE_ret (.inl rfl) (tells_tmps rfl rfl) ⟨_, ⟨rfl, rfl⟩, by exact EN⟩
  · rw [List.concat_eq_append] at hl hb ht ⊢
    have hr := hb r (by simp)
    rw [topR_snoc] at ht
    rw [lastL_snoc]
    refine XO_call ht (hk := ?_)
    rintro _ _ ⟨rfl, rfl⟩
    (repeat refine Z ?_)
    refine XO_dv (dv_alloc (row := [.int .i64 0, .int .i64 0])) (hk := ?_)
    rintro _ _ ⟨rb, rfl, rfl⟩
    refine XO_dv0 (dv_storeW (vs := [.int .i64 r.1, .int .i64 r.2])) (hk := ?_)
    rintro _ _ rfl
    (repeat refine Z ?_)
    refine X_cond rfl (fun h => by cases h) (fun _ => ?_)
    (repeat refine Z ?_)
    refine XE_ret (.inl rfl) (tells_tmps rfl rfl) ⟨_, ⟨rfl, rfl⟩, by exact EN⟩
theorem plpages_spec (p s : Nat) (k o : Int) (rs : List (Int × Int)) (hl : rs.length ≤ 1048576) (hB : Bd rs) : Spec Tryz.prog 84 [.pointer (some ⟨p, 0, none⟩)] [Pl p s k o rs] (fun v L => v = .int .i64 (totI rs) ∧ L = [Pl p s k o rs]) := by
  refine Spec.intro (IsEnt.out) Tryz.func84 rfl Tryz.ntmps84 (by simp) (fun w0 F => ?_)
  simp only [envOf, List.zipIdx, List.map, List.cons_append, List.nil_append, Nat.zero_add, Nat.reduceAdd]
  (repeat refine Z ?_)
  refine X_cond rfl (fun h => by cases h) (fun _ => ?_)
  refine X_open .here Pl.open ?_
  rintro ⟨a, c⟩ -
  dsimp only [List.cons_append, List.nil_append]
  have htb : ∀ i, 0 ≤ totI (rs.take i) ∧ totI (rs.take i) ≤ 1048576 * (rs.length : Int) := fun i => by
    have key : ∀ l : List (Int × Int), (∀ r ∈ l, 0 ≤ r.1 ∧ 0 ≤ r.2 ∧ r.1 + r.2 ≤ 1048576) → 0 ≤ totI l ∧ totI l ≤ 1048576 * (l.length : Int) := by
      intro l
      induction l with
      | nil => intro _; simp [totI]
      | cons r l ih =>
        intro h
        have h1 := h r (by simp)
        have h2 := ih fun q hq => h q (by simp [hq])
        rw [tot_cons]; simp; omega
    have h1 := key (rs.take i) fun r hr => hB r (List.mem_of_mem_take hr)
    have h2 : (rs.take i).length ≤ rs.length := by simp; omega
    omega
  (repeat refine Z ?_)
  refine X_loop (ι := Nat) (fun i => i ≤ rs.length) (fun i => [(0, .pointer (some ⟨p, 0, none⟩)), (11, .slice a rs.length c), (12, .int .i64 (rs.length : Int)), (13, .int .i64 (i : Int)), (3, .int .i64 (totI (rs.take i)))])
    (fun _ => pt p (.cells [.pointer (some ⟨s, 0, none⟩), .int .i64 k, .int .u64 o, .slice a rs.length c].toArray 200 (0, 0)) :: Sl eRun a c rs :: F) (fun i => rs.length - i) 0 (Nat.zero_le _) ?_ (by exact EN) ?_
  · exact SBs
  intro i hi
  dsimp only at hi ⊢
  (repeat refine Z ?_)
  refine X_cond rfl (fun hc => ?_) (fun hc => ?_) <;> simp only [decide_eq_true_eq, decide_eq_false_iff_not] at hc
  · have hil : i < rs.length := by omega
    have hg : rs[i]? = some rs[i] := List.getElem?_eq_getElem hil
    have hr := hB rs[i] (List.getElem_mem hil)
    have hs : totI (rs.take (i + 1)) = totI (rs.take i) + rs[i].2 := by rw [List.take_succ_eq_append_getElem hil, tot_append]; simp [totI]
    have hb1 := htb i
    refine X_slopen (E' := eRun) (a := a) (c := c) (xs := rs) (by exact FDs) (by omega) ?_
    rintro b oo rfl
    (repeat refine Z ?_)
    refine XO_dv (dv_alloc (row := [.int .i64 0, .int .i64 0])) (hk := ?_)
    rintro _ _ ⟨rb, rfl, rfl⟩
    refine XO_dv0 (dv_storeW (vs := [.int .i64 rs[i].1, .int .i64 rs[i].2])) (hk := ?_)
    rintro _ _ rfl
    (repeat refine Z ?_)
    exact X_round (i + 1) (by show i + 1 ≤ rs.length; omega) (by show rs.length - (i + 1) < rs.length - i; omega) (by rw [hs]; exact SBs) (by exact EN)
  · obtain rfl : i = rs.length := by omega
    rw [List.take_length]
    (repeat refine Z ?_)
    refine XE_fold (by exact FAs) Pl.fold ?_
    refine XE_ret (.inl rfl) (tells_tmps rfl rfl) ⟨_, ⟨rfl, rfl⟩, by exact EN⟩
theorem plnew_spec (s : Nat) (k o : Int) : Spec Tryz.prog 57 [.pointer (some ⟨s, 0, none⟩), .int .i64 k, .int .u64 o] [] (fun v L => ∃ p, v = .pointer (some ⟨p, 0, none⟩) ∧ L = [Pl p s k o []]) := by
  refine Spec.intro (IsEnt.out) Tryz.func57 rfl Tryz.ntmps57 (by simp) (fun w0 F => ?_)
  simp only [envOf, List.zipIdx, List.map, List.cons_append, List.nil_append, Nat.zero_add, Nat.reduceAdd]
  (repeat refine Z ?_)
  refine XO_pv (pv_buildG [.pointer (some ⟨s, 0, none⟩), .int .i64 k, .int .u64 o, .slice none 0 0]) (hk := ?_)
  (repeat refine Z ?_)
  refine XO_dv dv_box (hk := ?_)
  rintro _ _ ⟨p, rfl, rfl⟩
  (repeat refine Z ?_)
  refine XE_conv (fun _ h => SL_nilSl eRun h) ?_
  refine XE_fold (by exact FAs) (Pl.fold (p := p) (s := s) (k := k) (o := o) (rs := []) (a := none) (c := 0)) ?_
  refine XE_ret (.inl rfl) (tells_tmps rfl rfl) ⟨_, ⟨p, rfl, rfl⟩, by exact EN⟩
end Go.Proofs.YtamecmklcnohjaaGreat.Sep
namespace Go.Proofs.YtamecmklcnohjaaGreat.Sep
open Go.RowKit
set_option linter.unusedSimpArgs false
set_option linter.unusedVariables false
theorem pl_bd {C : Co} {m : Int → Int} {k o : Int} {rs : List (Int × Int)} {oth : List (Int × Hd)} (hK : KInv C m (plH k o 0 rs ++ oth)) : ∀ r ∈ rs, RunOk C.P r := fun r hr => by
  have h : r ∈ gr (plH k o 0 rs) := by rw [plH_gr]; exact hr
  obtain ⟨q, hq, rfl⟩ := List.mem_map.1 h
  exact hK.run q (by simp [hq])
theorem pl_bd2 {C : Co} {m : Int → Int} {k o : Int} {rs : List (Int × Int)} {oth : List (Int × Hd)} (hK : KInv C m (plH k o 0 rs ++ oth)) : ∀ r ∈ rs, 0 ≤ r.1 ∧ r.1 ≤ 1048576 := fun r hr => by
  have h1 := pl_bd hK r hr
  have h2 := hK.ci.ok.p2
  unfold RunOk at h1
  omega
theorem lastL_bd {rs : List (Int × Int)} (h : ∀ r ∈ rs, 0 ≤ r.1 ∧ r.1 ≤ 1048576) : 0 ≤ lastL 0 rs ∧ lastL 0 rs < 18446744073709551616 := by
  rcases List.eq_nil_or_concat rs with rfl | ⟨l, r, rfl⟩
  · exact ⟨Int.le_refl _, by decide⟩
  · rw [List.concat_eq_append] at h ⊢
    have := h r (by simp)
    rw [lastL_snoc]; omega
def pushM (P : Int) (m : Mm) (k o nx pg n : Int) : Mm := lkM P (stM m (pg * 4096) (hdB ⟨n, k, o, 0⟩)) pg nx
theorem ppush_inv {C : Co} {m : Mm} {P k o n : Int} {rs : List (Int × Int)} {oth : List (Int × Hd)} (hK : KInv C m.f (plH k o 0 rs ++ oth)) (hP : C.P = P) (ho : 0 ≤ o ∧ o < 18446744073709551616) (hb : ¬ bad n k) (hz : (getC C (rnd n)).2.2 = 0) :
    KInv (getC C (rnd n)).1 (pushM P m k o (lastL 0 rs) (getC C (rnd n)).2.1 (rnd n)).f (plH k o 0 (rs ++ [((getC C (rnd n)).2.1, rnd n)]) ++ oth) ∧ (getC C (rnd n)).1.P = P := by
  obtain ⟨h1, h2⟩ := kget_inv hK hP ho hb hz
  refine ⟨?_, h2⟩
  have h3 := klink (l1 := plH k o 0 rs ++ oth) (l2 := []) h1 (lastL_bd (pl_bd2 hK))
  refine KInv.perm (g := (plH k o 0 rs ++ oth) ++ [((getC C (rnd n)).2.1, (⟨rnd n, k, o, lastL 0 rs⟩ : Hd))]) h3 ?_
  rw [plH_snoc, List.append_assoc, List.append_assoc]
  exact List.Perm.append_left _ (List.perm_append_comm)
set_option maxHeartbeats 8000000
attribute [local irreducible] X XE XO XD XDi XDa PV RV DV pt base Spec Sl Mp Keeps Pg Kc Pgs Spc Ck XL XLi Pl
theorem ppush_ok (p s sb : Nat) {C : Co} {m : Mm} {P k o n : Int} {rs : List (Int × Int)} {oth : List (Int × Hd)} (hK : KInv C m.f (plH k o 0 rs ++ oth)) (hP : C.P = P) (ho : 0 ≤ o ∧ o < 18446744073709551616) (hb : ¬ bad n k) (hz : (getC C (rnd n)).2.2 = 0) (hl : rs.length ≤ 1048576) :
    Spec Tryz.prog 64 [.pointer (some ⟨p, 0, none⟩), .int .i64 n] [Pl p s k o rs, Ck s sb C, Spc sb P m]
      (fun v L => v = .tuple #[.int .i64 (getC C (rnd n)).2.1, .int .i64 (rnd n), .int .i64 0] ∧ L = [Pl p s k o (rs ++ [((getC C (rnd n)).2.1, rnd n)]), Ck s sb (getC C (rnd n)).1, Spc sb P (pushM P m k o (lastL 0 rs) (getC C (rnd n)).2.1 (rnd n))]) := by
  refine Spec.intro (IsEnt.out) Tryz.func64 rfl Tryz.ntmps64 (by simp) (fun w0 F => ?_)
  simp only [envOf, List.zipIdx, List.map, List.cons_append, List.nil_append, Nat.zero_add, Nat.reduceAdd]
  have hK1 := kget_inv hK hP ho hb hz
  have s1 := kget_ok s sb hK hP ho hb hz
  have hbd := pl_bd2 hK
  unfold pushM
  generalize (getC C (rnd n)).1 = C1 at s1 hK1 ⊢
  generalize (getC C (rnd n)).2.1 = pg at s1 hK1 ⊢
  generalize rnd n = n' at s1 hK1 ⊢
  generalize stM m (pg * 4096) (hdB ⟨n', k, o, 0⟩) = m1 at s1 hK1 ⊢
  obtain ⟨hK1, hP1⟩ := hK1
  (repeat refine Z ?_)
  refine X_cond rfl (fun h => by cases h) (fun _ => ?_)
  refine X_open .here Pl.open ?_
  rintro ⟨a, c⟩ -
  dsimp only [List.cons_append, List.nil_append]
  (repeat refine Z ?_)
  (repeat refine ZD ?_)
  refine XD_one (h := ?_)
  refine XDa_dvA (dv_call s1) (hk := ?_)
  (rintro _ _ ⟨_, ⟨rfl, rfl⟩, rfl⟩; refine ⟨by exact KP, ?_⟩)
  (repeat refine ZD ?_)
  (refine XD_one (h := ?_); refine XDa_dvA (dv_of_rv (rv_of_pv pv_assign)) (hk := ?_); rintro _ _ ⟨rfl, rfl⟩; refine ⟨by exact KP, ?_⟩)
  (refine XD_one (h := ?_); refine XDa_dvA (dv_of_rv (rv_of_pv pv_assign)) (hk := ?_); rintro _ _ ⟨rfl, rfl⟩; refine ⟨by exact KP, ?_⟩)
  (refine XD_one (h := ?_); refine XDa_dvA (dv_of_rv (rv_of_pv pv_assign)) (hk := ?_); rintro _ _ ⟨rfl, rfl⟩; refine ⟨by exact KP, ?_⟩)
  (refine XD_end (h := ?_); (repeat refine Z ?_))
  refine X_cond rfl (fun h => by cases h) (fun _ => ?_)
  (repeat refine Z ?_)
  refine XO_call (kspace_spec s sb C1) (hk := ?_)
  rintro _ _ ⟨rfl, rfl⟩
  (repeat refine Z ?_)
  refine XO_fold (by exact FAs) (Pl.fold (p := p) (s := s) (k := k) (o := o) (rs := rs) (a := a) (c := c)) ?_
  refine XO_call (plink_spec p s k o rs (by omega) hbd) (hk := ?_)
  rintro _ _ ⟨rfl, rfl⟩
  (repeat refine Z ?_)
  refine XO_call (hlink_ok sb (l2 := []) (lastL 0 rs) hK1 hP1) (hk := ?_)
  rintro _ _ ⟨rfl, rfl⟩
  (repeat refine Z ?_)
  refine XO_open (A := Pl p s k o rs) (by exact FDs) Pl.open ?_
  rintro ⟨a2, c2⟩ -
  dsimp only [List.cons_append, List.nil_append]
  (repeat refine Z ?_)
  refine XO_lit (E' := eRun) [(pg, n')] (hk := ?_)
  intro lb
  (repeat refine Z ?_)
  refine XO_dv (dv_append (E' := eRun) (xs := rs) (ys := [(pg, n')]) (hv := Sl.view) (hb := by simp; omega)) (hk := ?_)
  rintro _ _ ⟨a3, c3, rfl, rfl⟩
  (repeat refine Z ?_)
  refine XO_dv0 dv_store (hk := ?_)
  rintro _ _ rfl
  (repeat refine Z ?_)
  refine XE_fold (by exact FAs) (Pl.fold (p := p) (s := s) (k := k) (o := o) (rs := rs ++ [(pg, n')]) (a := a3) (c := c3)) ?_
  refine XE_ret (.inl rfl) (tells_tmps rfl rfl) ⟨_, ⟨rfl, rfl⟩, by exact EN⟩
theorem ppush_err (p s sb : Nat) {C C' : Co} {m : Mm} {P k o n e : Int} {rs : List (Int × Int)} (he : e ≠ 0)
    (s1 : Spec Tryz.prog 117 [.pointer (some ⟨s, 0, none⟩), .int .i64 n, .int .i64 k, .int .u64 o] [Ck s sb C, Spc sb P m] (fun v L => v = .tuple #[.int .i64 0, .int .i64 0, .int .i64 e] ∧ L = [Ck s sb C', Spc sb P m])) :
    Spec Tryz.prog 64 [.pointer (some ⟨p, 0, none⟩), .int .i64 n] [Pl p s k o rs, Ck s sb C, Spc sb P m]
      (fun v L => v = .tuple #[.int .i64 0, .int .i64 0, .int .i64 e] ∧ L = [Pl p s k o rs, Ck s sb C', Spc sb P m]) := by
  refine Spec.intro (IsEnt.out) Tryz.func64 rfl Tryz.ntmps64 (by simp) (fun w0 F => ?_)
  simp only [envOf, List.zipIdx, List.map, List.cons_append, List.nil_append, Nat.zero_add, Nat.reduceAdd]
  (repeat refine Z ?_)
  refine X_cond rfl (fun h => by cases h) (fun _ => ?_)
  refine X_open .here Pl.open ?_
  rintro ⟨a, c⟩ -
  dsimp only [List.cons_append, List.nil_append]
  (repeat refine Z ?_)
  (repeat refine ZD ?_)
  refine XD_one (h := ?_)
  refine XDa_dvA (dv_call s1) (hk := ?_)
  (rintro _ _ ⟨_, ⟨rfl, rfl⟩, rfl⟩; refine ⟨by exact KP, ?_⟩)
  (repeat refine ZD ?_)
  (refine XD_one (h := ?_); refine XDa_dvA (dv_of_rv (rv_of_pv pv_assign)) (hk := ?_); rintro _ _ ⟨rfl, rfl⟩; refine ⟨by exact KP, ?_⟩)
  (refine XD_one (h := ?_); refine XDa_dvA (dv_of_rv (rv_of_pv pv_assign)) (hk := ?_); rintro _ _ ⟨rfl, rfl⟩; refine ⟨by exact KP, ?_⟩)
  (refine XD_one (h := ?_); refine XDa_dvA (dv_of_rv (rv_of_pv pv_assign)) (hk := ?_); rintro _ _ ⟨rfl, rfl⟩; refine ⟨by exact KP, ?_⟩)
  (refine XD_end (h := ?_); (repeat refine Z ?_))
  refine X_cond rfl (fun _ => ?_) (fun h => absurd (by simpa using h) he)
  (repeat refine Z ?_)
  refine XE_fold (by exact FAs) (Pl.fold (p := p) (s := s) (k := k) (o := o) (rs := rs) (a := a) (c := c)) ?_
  refine XE_ret (.inl rfl) (tells_tmps rfl rfl) ⟨_, ⟨rfl, rfl⟩, by exact EN⟩
end Go.Proofs.YtamecmklcnohjaaGreat.Sep
namespace Go.Proofs.YtamecmklcnohjaaGreat.Sep
open Go.RowKit
set_option linter.unusedSimpArgs false
set_option linter.unusedVariables false
def popM (P : Int) (m : Mm) (pg : Int) : Mm := kputM P (hrM P m pg) pg
theorem plH_top {C : Co} {m : Int → Int} {k o pg n : Int} {l : List (Int × Int)} {oth : List (Int × Hd)} (hK : KInv C m (plH k o 0 (l ++ [(pg, n)]) ++ oth)) : KInv C m (plH k o 0 l ++ (pg, (⟨n, k, o, lastL 0 l⟩ : Hd)) :: oth) := by
  rw [plH_snoc, List.append_assoc] at hK; exact hK
theorem ppop_inv {C : Co} {m : Mm} {P k o pg n : Int} {l : List (Int × Int)} {oth : List (Int × Hd)} (hK : KInv C m.f (plH k o 0 (l ++ [(pg, n)]) ++ oth)) (hP : C.P = P) :
    KInv (putC C (pg, n)) (popM P m pg).f (plH k o 0 l ++ oth) ∧ (putC C (pg, n)).P = P :=
  kput_inv (m := hrM P m pg) (hd := ⟨n, k, o, lastL 0 l⟩) (plH_top hK) hP
set_option maxHeartbeats 8000000
attribute [local irreducible] X XE XO XD XDi XDa PV RV DV pt base Spec Sl Mp Keeps Pg Kc Pgs Spc Ck XL XLi Pl
theorem ppop_ok (p s sb : Nat) {C : Co} {m : Mm} {P k o pg n : Int} {l : List (Int × Int)} {oth : List (Int × Hd)} (hK : KInv C m.f (plH k o 0 (l ++ [(pg, n)]) ++ oth)) (hP : C.P = P) (hl : l.length ≤ 1048576) :
    Spec Tryz.prog 129 [.pointer (some ⟨p, 0, none⟩)] [Pl p s k o (l ++ [(pg, n)]), Ck s sb C, Spc sb P m]
      (fun v L => v = .tuple #[.int .i64 pg, .int .i64 n, .int .i64 0] ∧ L = [Pl p s k o l, Ck s sb (putC C (pg, n)), Spc sb P (popM P m pg)]) := by
  refine Spec.intro (IsEnt.out) Tryz.func129 rfl Tryz.ntmps129 (by simp) (fun w0 F => ?_)
  simp only [envOf, List.zipIdx, List.map, List.cons_append, List.nil_append, Nat.zero_add, Nat.reduceAdd]
  have hT := plH_top hK
  have ht := ptop_spec p s k o (l ++ [(pg, n)]) (by simp; omega)
  rw [topR_snoc] at ht
  (repeat refine Z ?_)
  refine XO_call ht (hk := ?_)
  rintro _ _ ⟨rfl, rfl⟩
  (repeat refine Z ?_)
  refine XO_dv (dv_alloc (row := [.int .i64 0, .int .i64 0])) (hk := ?_)
  rintro _ _ ⟨rb, rfl, rfl⟩
  refine XO_dv0 (dv_storeW (vs := [.int .i64 pg, .int .i64 n])) (hk := ?_)
  rintro _ _ rfl
  (repeat refine Z ?_)
  refine X_cond rfl (fun h => by cases h) (fun _ => ?_)
  refine X_open (A := Pl p s k o (l ++ [(pg, n)])) (by exact FDs) Pl.open ?_
  rintro ⟨a, c⟩ -
  dsimp only [List.cons_append, List.nil_append]
  (repeat refine Z ?_)
  (repeat refine ZD ?_)
  refine XL_start 11 7 (fun b => pt b (.cells [.int .i64 0, .int .i64 0, .int .u64 0, .int .u64 0].toArray 267 (0, 0))) ?_
  refine XL_call (kspace_spec s sb C) ?_
  (rintro _ _ ⟨rfl, rfl⟩; refine ⟨by exact KP, ?_⟩)
  (repeat (first | refine XL_pick ?_ | refine Lq ?_ | refine Ls ?_))
  refine XL_call (hread_ok sb hT hP) ?_
  (rintro _ _ ⟨rfl, rfl⟩; refine ⟨by exact KP, ?_⟩)
  (repeat (first | refine XL_pick ?_ | refine Lq ?_ | refine Ls ?_))
  refine XL_end ?_
  intro xb
  (repeat refine ZD ?_)
  refine XD_one (h := ?_)
  refine XDa_dvk0 (dv_storeW (vs := [.int .i64 n, .int .i64 k, .int .u64 o, .int .u64 (lastL 0 l)])) (K := _) (hk := ?_)
  (rintro _ _ rfl; refine ⟨by exact KP, ?_⟩)
  (repeat refine ZD ?_)
  (refine XD_one (h := ?_); refine XDa_dvA (dv_of_rv (rv_of_pv pv_assign)) (hk := ?_); rintro _ _ ⟨rfl, rfl⟩; refine ⟨by exact KP, ?_⟩)
  (refine XD_end (h := ?_); (repeat refine Z ?_))
  refine X_cond rfl (fun h => by cases h) (fun _ => ?_)
  (repeat refine Z ?_)
  (repeat refine ZD ?_)
  have hpt := kput_ok s sb (m := hrM P m pg) (hd := ⟨n, k, o, lastL 0 l⟩) hT hP
  refine XD_one (h := ?_)
  refine XDa_dvA (dv_call hpt) (hk := ?_)
  (rintro _ _ ⟨_, ⟨rfl, rfl⟩, rfl⟩; refine ⟨by exact KP, ?_⟩)
  (repeat refine ZD ?_)
  (refine XD_one (h := ?_); refine XDa_dvA (dv_of_rv (rv_of_pv pv_assign)) (hk := ?_); rintro _ _ ⟨rfl, rfl⟩; refine ⟨by exact KP, ?_⟩)
  (refine XD_end (h := ?_); (repeat refine Z ?_))
  refine X_cond rfl (fun h => by cases h) (fun _ => ?_)
  have hll : (l ++ [(pg, n)]).length = l.length + 1 := by simp
  refine X_fact (A := Sl eRun a c (l ++ [(pg, n)])) (by exact FDs) Sl.cap (fun hcap => ?_)
  (repeat refine Z ?_)
  refine XO_pv pv_sliceHM (hk := ?_)
  (repeat refine Z ?_)
  refine XO_dv0 dv_store (hk := ?_)
  rintro _ _ rfl
  (repeat refine Z ?_)
  have e1 : (((l ++ [(pg, n)]).length : Int) - 1).toNat = l.length := by omega
  rw [e1]
  refine X_conv (fun _ => SL_take (E' := eRun) (a := a) (c := c) (xs := l ++ [(pg, n)]) l.length (by exact FDs)) ?_
  rw [List.take_left]
  refine X_conv (fun _ h => SL.head (Sl.less (E' := eRun) (c' := l.length) (by omega) (Nat.le_refl _)) h) ?_
  (repeat refine Z ?_)
  (repeat refine ZD ?_)
  (refine XD_one (h := ?_); refine XDa_dvA (dv_of_rv (rv_of_pv pv_assign)) (hk := ?_); rintro _ _ ⟨rfl, rfl⟩; refine ⟨by exact KP, ?_⟩)
  (refine XD_one (h := ?_); refine XDa_dvA (dv_of_rv (rv_of_pv pv_assign)) (hk := ?_); rintro _ _ ⟨rfl, rfl⟩; refine ⟨by exact KP, ?_⟩)
  (refine XD_one (h := ?_); refine XDa_dvA (dv_of_rv (rv_of_pv pv_assign)) (hk := ?_); rintro _ _ ⟨rfl, rfl⟩; refine ⟨by exact KP, ?_⟩)
  (refine XD_end (h := ?_); (repeat refine Z ?_))
  refine XE_fold (by exact FAs) (Pl.fold (p := p) (s := s) (k := k) (o := o) (rs := l) (a := a) (c := l.length)) ?_
  refine XE_ret (.inl rfl) (tells_tmps rfl rfl) ⟨_, ⟨rfl, rfl⟩, by exact EN⟩
theorem pcut_ok (p s sb : Nat) {k o P : Int} {oth : List (Int × Hd)} (hP2 : P ≤ 1048576) : ∀ (r2 : List (Int × Int)) (rs : List (Int × Int)) (C : Co) (m : Mm), KInv C m.f (plH k o 0 (rs ++ r2) ++ oth) → C.P = P → (rs ++ r2).length ≤ 1048576 →
    KInv (r2.reverse.foldl putC C) (r2.reverse.foldl (fun m r => popM P m r.1) m).f (plH k o 0 rs ++ oth) ∧ (r2.reverse.foldl putC C).P = P := by
  intro r2
  induction r2 with
  | nil => intro rs C m hK hP _; rw [List.append_nil] at hK; exact ⟨hK, hP⟩
  | cons r r2 ih =>
    intro rs C m hK hP hl
    have e : rs ++ r :: r2 = (rs ++ [r]) ++ r2 := by simp
    rw [e] at hK hl
    obtain ⟨h1, h2⟩ := ih (rs ++ [r]) C m hK hP hl
    rw [List.reverse_cons, List.foldl_append, List.foldl_append]
    exact ppop_inv (pg := r.1) (n := r.2) h1 h2
end Go.Proofs.YtamecmklcnohjaaGreat.Sep
namespace Go.Proofs.YtamecmklcnohjaaGreat.Sep
open Go.RowKit
set_option linter.unusedSimpArgs false
set_option linter.unusedVariables false
def cutC (C : Co) (l : List (Int × Int)) : Co := l.reverse.foldl putC C
def cutM (P : Int) (m : Mm) (l : List (Int × Int)) : Mm := l.reverse.foldl (fun m r => popM P m r.1) m
theorem cutC_cons (C : Co) (r : Int × Int) (l : List (Int × Int)) : cutC C (r :: l) = putC (cutC C l) r := by unfold cutC; rw [List.reverse_cons, List.foldl_append]; rfl
theorem cutM_cons (P : Int) (m : Mm) (r : Int × Int) (l : List (Int × Int)) : cutM P m (r :: l) = popM P (cutM P m l) r.1 := by unfold cutM; rw [List.reverse_cons, List.foldl_append]; rfl
theorem pcut_inv {k o P : Int} {oth : List (Int × Hd)} {rs : List (Int × Int)} {C : Co} {m : Mm} (hK : KInv C m.f (plH k o 0 rs ++ oth)) (hP : C.P = P) (hl : rs.length ≤ 1048576) (j : Nat) :
    KInv (cutC C (rs.drop j)) (cutM P m (rs.drop j)).f (plH k o 0 (rs.take j) ++ oth) ∧ (cutC C (rs.drop j)).P = P :=
  pcut_ok 0 0 0 (by have := hK.ci.ok.p2; omega) (rs.drop j) (rs.take j) C m (by rw [List.take_append_drop]; exact hK) hP (by rw [List.take_append_drop]; exact hl)
set_option maxHeartbeats 8000000
attribute [local irreducible] X XE XO XD XDi XDa PV RV DV pt base Spec Sl Mp Keeps Pg Kc Pgs Spc Ck XL XLi Pl
theorem pcut_spec (p s sb : Nat) {C : Co} {m : Mm} {P k o n : Int} {rs : List (Int × Int)} {oth : List (Int × Hd)} (hK : KInv C m.f (plH k o 0 rs ++ oth)) (hP : C.P = P) (hl : rs.length ≤ 1048576) (hn : 0 ≤ n) :
    Spec Tryz.prog 74 [.pointer (some ⟨p, 0, none⟩), .int .i64 n] [Pl p s k o rs, Ck s sb C, Spc sb P m]
      (fun v L => v = .int .i64 0 ∧ L = [Pl p s k o (rs.take n.toNat), Ck s sb (cutC C (rs.drop n.toNat)), Spc sb P (cutM P m (rs.drop n.toNat))]) := by
  refine Spec.intro (IsEnt.out) Tryz.func74 rfl Tryz.ntmps74 (by simp) (fun w0 F => ?_)
  simp only [envOf, List.zipIdx, List.map, List.cons_append, List.nil_append, Nat.zero_add, Nat.reduceAdd]
  (repeat refine Z ?_)
  refine X_cond rfl (fun h => ?_) (fun _ => ?_)
  · simp only [decide_eq_true_eq] at h; omega
  (repeat refine Z ?_)
  refine X_loop (ι := Nat) (fun j => j ≤ rs.length ∧ min n.toNat rs.length ≤ j) (fun j => [(0, .pointer (some ⟨p, 0, none⟩)), (1, .int .i64 n)])
    (fun j => Pl p s k o (rs.take j) :: Ck s sb (cutC C (rs.drop j)) :: Spc sb P (cutM P m (rs.drop j)) :: F) (fun j => j) rs.length ⟨Nat.le_refl _, Nat.min_le_right _ _⟩ ?_ (by rw [List.take_length, List.drop_length]; exact EN) ?_
  · exact SBs
  rintro j ⟨hj, hm⟩
  dsimp only at hj hm ⊢
  obtain ⟨hK1, hP1⟩ := pcut_inv hK hP hl j
  (repeat refine Z ?_)
  refine XO_call (plen_spec p s k o (rs.take j)) (hk := ?_)
  rintro _ _ ⟨rfl, rfl⟩
  have hjl : (rs.take j).length = j := by simp; omega
  (repeat refine Z ?_)
  refine X_cond rfl (fun hc => ?_) (fun hc => ?_) <;> simp only [hjl, decide_eq_true_eq, decide_eq_false_iff_not] at hc
  · obtain ⟨i, rfl⟩ : ∃ i, j = i + 1 := ⟨j - 1, by omega⟩
    have hil : i < rs.length := by omega
    have e1 : rs.take (i + 1) = rs.take i ++ [rs[i]] := List.take_succ_eq_append_getElem hil
    have e2 : rs.drop i = rs[i] :: rs.drop (i + 1) := List.drop_eq_getElem_cons hil
    rw [e1] at hK1 ⊢
    have hp := ppop_ok p s sb (pg := rs[i].1) (n := rs[i].2) hK1 hP1 (by simp; omega)
    (repeat refine Z ?_)
    refine XO_call hp (hk := ?_)
    rintro _ _ ⟨rfl, rfl⟩
    (repeat refine Z ?_)
    refine X_cond rfl (fun h => by cases h) (fun _ => ?_)
    (repeat refine Z ?_)
    exact X_round i ⟨by omega, by omega⟩ (by omega) (by exact SBs) (by rw [e2, cutC_cons, cutM_cons]; exact EN)
  · have e3 : rs.take j = rs.take n.toNat ∧ rs.drop j = rs.drop n.toNat := by
      by_cases h1 : n.toNat ≤ rs.length
      · obtain rfl : j = n.toNat := by omega
        exact ⟨rfl, rfl⟩
      · obtain rfl : j = rs.length := by omega
        exact ⟨by rw [List.take_length, List.take_of_length_le (by omega)], by rw [List.drop_length, List.drop_of_length_le (by omega)]⟩
    rw [e3.1, e3.2]
    (repeat refine Z ?_)
    refine XE_ret (.inl rfl) (tells_tmps rfl rfl) ⟨_, ⟨rfl, rfl⟩, by exact EN⟩
def walkM (P : Int) (m : Mm) (l : List (Int × Int)) : Mm := l.reverse.foldl (fun m r => hrM P m r.1) m
end Go.Proofs.YtamecmklcnohjaaGreat.Sep
namespace Go.Proofs.YtamecmklcnohjaaGreat.Sep
open Go.RowKit
set_option linter.unusedSimpArgs false
set_option linter.unusedVariables false
set_option maxHeartbeats 8000000
attribute [local irreducible] X XE XO XD XDi XDa PV RV DV pt base Spec Sl Mp Keeps

def powB (n : Int) : Bool := decide (n.toNat ≠ 0 ∧ n.toNat &&& (n.toNat - 1) = 0)
def addI (a b : Int) : Option Int := if a + b < 18446744073709551616 then some (a + b) else none
def upI (n a : Int) : Option Int := if powB a then addI n ((-n) % a) else none
theorem powB_iff {n : Int} (h : 0 ≤ n) : powB n = true ↔ ∃ k : Nat, n = ((2 ^ k : Nat) : Int) := by
  unfold powB
  rw [decide_eq_true_iff]
  constructor
  · rintro ⟨h1, h2⟩
    obtain ⟨k, hk⟩ := pow_two_of h1 h2
    exact ⟨k, by omega⟩
  · rintro ⟨k, rfl⟩
    have := Nat.two_pow_pos k
    rw [Int.toNat_natCast]
    exact ⟨by omega, pow_two_and k⟩
theorem mask_neg {n a : Int} (hn : 0 ≤ n) (hn' : n ≤ 18446744073709551615) (ha : powB a = true) (ha0 : 0 ≤ a) (ha' : a ≤ 18446744073709551615) :
    bitop .and .u64 (IntKind.u64.wrap (0 - n)) (a - 1) = (-n) % a := by
  obtain ⟨k, rfl⟩ := (powB_iff ha0).1 ha
  have hp := Nat.two_pow_pos k
  have hk : k < 64 := by
    rcases Nat.lt_or_ge k 64 with h | h
    · exact h
    · have := Nat.pow_le_pow_right (by decide : 0 < 2) h; omega
  rw [wrap_u64_eq]
  have e1 : (0 - n) % 18446744073709551616 = (((0 - n) % 18446744073709551616).toNat : Int) := by omega
  have e2 : ((2 ^ k : Nat) : Int) - 1 = ((2 ^ k - 1 : Nat) : Int) := by omega
  rw [e1, e2, bitop_and_u64 (by omega) (by omega), and_mask]
  rw [Int.natCast_emod, ← e1]
  have hd : ((2 ^ k : Nat) : Int) ∣ 18446744073709551616 := by
    refine ⟨((2 ^ (64 - k) : Nat) : Int), ?_⟩
    rw [← Int.natCast_mul, ← Nat.pow_add, show k + (64 - k) = 64 from by omega]; decide
  rw [Int.emod_emod_of_dvd _ hd]
  congr 1; omega
theorem pow_spec (n : Int) (h0 : 0 ≤ n) (h1 : n ≤ 18446744073709551615) : Spec Tryz.prog 113 [.int .u64 n] [] (fun v L => v = .bool (powB n) ∧ L = []) := by
  refine Spec.intro (IsEnt.out) Tryz.func113 rfl Tryz.ntmps113 (by simp) (fun w0 F => ?_)
  simp only [envOf, List.zipIdx, List.map, List.cons_append, List.nil_append, Nat.zero_add, Nat.reduceAdd]
  (repeat refine Z ?_)
  refine XO_either (hT := fun h => ?_) (hF := fun h => ?_)
  · have hn : n ≠ 0 := by simpa using h
    have e1 : (bitop .and .u64 n (n - 1) == 0) = powB n := by
      have e2 : bitop .and .u64 n (n - 1) = ((n.toNat &&& (n.toNat - 1) : Nat) : Int) := by
        have := bitop_and_u64 (a := n.toNat) (b := n.toNat - 1) (by omega) (by omega)
        rwa [show ((n.toNat : Nat) : Int) = n from by omega, show ((n.toNat - 1 : Nat) : Int) = n - 1 from by omega] at this
      rw [e2]
      unfold powB
      have : n.toNat ≠ 0 := by omega
      simp [this, Bool.beq_eq_decide_eq]
    (repeat refine Z ?_)
    rw [e1]
    refine XE_ret (.inl rfl) (tells_tmps rfl rfl) ⟨_, ⟨rfl, rfl⟩, by exact EN⟩
  · have hn : n = 0 := by simpa using h
    subst hn
    (repeat refine Z ?_)
    refine XE_ret (.inl rfl) (tells_tmps rfl rfl) ⟨_, ⟨rfl, rfl⟩, by exact EN⟩
theorem add_spec (a b : Int) (h0 : 0 ≤ a) (h1 : a ≤ 18446744073709551615) (h2 : 0 ≤ b) (h3 : b ≤ 18446744073709551615) : Spec Tryz.prog 125 [.int .u64 a, .int .u64 b] [] (fun v L => v = .tuple #[.int .u64 ((addI a b).getD 0), .bool (addI a b).isSome] ∧ L = []) := by
  refine Spec.intro (IsEnt.out) Tryz.func125 rfl Tryz.ntmps125 (by simp) (fun w0 F => ?_)
  simp only [envOf, List.zipIdx, List.map, List.cons_append, List.nil_append, Nat.zero_add, Nat.reduceAdd]
  (repeat refine Z ?_)
  have hw := wrap_u64_eq (a + b)
  refine X_cond rfl (fun h => ?_) (fun h => ?_) <;> simp only [decide_eq_true_eq, decide_eq_false_iff_not] at h
  · have : a + b < 18446744073709551616 := by omega
    rw [show IntKind.u64.wrap (a + b) = a + b from by omega]
    (repeat refine Z ?_)
    unfold addI
    rw [if_pos this]
    refine XE_ret (.inl rfl) (tells_tmps rfl rfl) ⟨_, ⟨rfl, rfl⟩, by exact EN⟩
  · have : ¬ a + b < 18446744073709551616 := by omega
    (repeat refine Z ?_)
    unfold addI
    rw [if_neg this]
    refine XE_ret (.inl rfl) (tells_tmps rfl rfl) ⟨_, ⟨rfl, rfl⟩, by exact EN⟩
theorem add_le {a b s : Int} (h : addI a b = some s) : s = a + b ∧ a + b < 18446744073709551616 := by
  unfold addI at h
  split at h
  · exact ⟨(Option.some.inj h).symm, by assumption⟩
  · cases h
theorem up_spec (n a : Int) (h0 : 0 ≤ n) (h1 : n ≤ 18446744073709551615) (h2 : 0 ≤ a) (h3 : a ≤ 18446744073709551615) : Spec Tryz.prog 124 [.int .u64 n, .int .u64 a] [] (fun v L => v = .tuple #[.int .u64 ((upI n a).getD 0), .bool (upI n a).isSome] ∧ L = []) := by
  refine Spec.intro (IsEnt.out) Tryz.func124 rfl Tryz.ntmps124 (by simp) (fun w0 F => ?_)
  simp only [envOf, List.zipIdx, List.map, List.cons_append, List.nil_append, Nat.zero_add, Nat.reduceAdd]
  (repeat refine Z ?_)
  refine XO_call (pow_spec a h2 h3) (hk := ?_)
  rintro _ _ ⟨rfl, rfl⟩
  (repeat refine Z ?_)
  refine X_cond rfl (fun h => ?_) (fun h => ?_) <;> simp only [Bool.not_eq_true', Bool.not_eq_false'] at h
  · (repeat refine Z ?_)
    unfold upI
    rw [h, if_neg Bool.false_ne_true]
    refine XE_ret (.inl rfl) (tells_tmps rfl rfl) ⟨_, ⟨rfl, rfl⟩, by exact EN⟩
  · have ha := (powB_iff h2).1 h
    have ha0 : 0 < a := by obtain ⟨k, rfl⟩ := ha; have := Nat.two_pow_pos k; omega
    have hm := mask_neg h0 h1 h h2 h3
    have hr0 := Int.emod_nonneg (-n) (show a ≠ 0 by omega)
    have hr1 := Int.emod_lt_of_pos (-n) ha0
    (repeat refine Z ?_)
    rw [hm]
    refine XO_call (add_spec n ((-n) % a) h0 h1 hr0 (by omega)) (hk := ?_)
    rintro _ _ ⟨rfl, rfl⟩
    have hu : upI n a = addI n ((-n) % a) := by unfold upI; rw [if_pos h]
    rw [← hu]
    (repeat refine Z ?_)
    refine XE_ret (.inl rfl) (tells_tmps rfl rfl) ⟨_, ⟨rfl, rfl⟩, by exact EN⟩
theorem pages_spec (n : Int) (h0 : 0 ≤ n) (h1 : n ≤ 18446744073709551615) : Spec Tryz.prog 126 [.int .u64 n] [] (fun v L => v = .int .u64 ((n + 4095) / 4096) ∧ L = []) := by
  refine Spec.intro (IsEnt.out) Tryz.func126 rfl Tryz.ntmps126 (by simp) (fun w0 F => ?_)
  simp only [envOf, List.zipIdx, List.map, List.cons_append, List.nil_append, Nat.zero_add, Nat.reduceAdd]
  (repeat refine Z ?_)
  have hb : bitop .and .u64 n 4095 = n % 4096 := by
    have := bitop_and_u64 (a := n.toNat) (b := 4095) (by omega) (by omega)
    rw [show (4095 : Nat) = 2 ^ 12 - 1 from rfl, and_mask] at this
    rw [show ((n.toNat : Nat) : Int) = n from by omega] at this
    rw [show (4095 : Int) = ((2 ^ 12 - 1 : Nat) : Int) from rfl, this]
    omega
  rw [hb]
  refine X_cond rfl (fun h => ?_) (fun h => ?_)
  · have : n % 4096 ≠ 0 := by simpa using h
    (repeat refine Z ?_)
    rw [show n / 4096 + 1 = (n + 4095) / 4096 from by omega]
    refine XE_ret (.inl rfl) (tells_tmps rfl rfl) ⟨_, ⟨rfl, rfl⟩, by exact EN⟩
  · have : n % 4096 = 0 := by simpa using h
    (repeat refine Z ?_)
    rw [show n / 4096 = (n + 4095) / 4096 from by omega]
    refine XE_ret (.inl rfl) (tells_tmps rfl rfl) ⟨_, ⟨rfl, rfl⟩, by exact EN⟩
end Go.Proofs.YtamecmklcnohjaaGreat.Sep
namespace Go.Proofs.YtamecmklcnohjaaGreat.Sep
open Go.RowKit
set_option linter.unusedSimpArgs false
set_option linter.unusedVariables false
set_option maxHeartbeats 8000000
attribute [local irreducible] X XE XO XD XDi XDa PV RV DV pt base Spec Sl Mp Keeps

def needI (size align : Int) : Option Int := if size = 0 ∨ 4096 < align then none else (upI 32 align).bind fun f => (addI f size).map fun n => (n + 4095) / 4096
theorem upI_le {n a s : Int} (h0 : 0 ≤ n) (h2 : 0 ≤ a) (h : upI n a = some s) : n ≤ s ∧ s < 18446744073709551616 ∧ powB a = true ∧ s < n + a ∧ s = n + (-n) % a := by
  unfold upI at h
  split at h
  · rename_i hp
    obtain ⟨k, rfl⟩ := (powB_iff h2).1 hp
    have hpos := Nat.two_pow_pos k
    have h3 := Int.emod_nonneg (-n) (show ((2 ^ k : Nat) : Int) ≠ 0 by omega)
    have h4 := Int.emod_lt_of_pos (-n) (show 0 < ((2 ^ k : Nat) : Int) by omega)
    obtain ⟨rfl, h5⟩ := add_le h
    exact ⟨by omega, by omega, hp, by omega, rfl⟩
  · cases h
theorem need_spec (size align : Int) (h0 : 0 ≤ size) (h1 : size ≤ 18446744073709551615) (h2 : 0 ≤ align) (h3 : align ≤ 18446744073709551615) :
    Spec Tryz.prog 68 [.int .u64 size, .int .u64 align] [] (fun v L => v = .tuple #[.int .u64 ((needI size align).getD 0), .bool (needI size align).isSome] ∧ L = []) := by
  refine Spec.intro (IsEnt.out) Tryz.func68 rfl Tryz.ntmps68 (by simp) (fun w0 F => ?_)
  simp only [envOf, List.zipIdx, List.map, List.cons_append, List.nil_append, Nat.zero_add, Nat.reduceAdd]
  (repeat refine Z ?_)
  refine XO_either (hT := fun h => ?_) (hF := fun h => ?_)
  · have hs : size = 0 := by simpa using h
    (repeat refine Z ?_)
    refine X_cond rfl (fun _ => ?_) (fun h => by cases h)
    (repeat refine Z ?_)
    unfold needI
    rw [if_pos (.inl hs)]
    refine XE_ret (.inl rfl) (tells_tmps rfl rfl) ⟨_, ⟨rfl, rfl⟩, by exact EN⟩
  have hs : ¬ size = 0 := by simpa using h
  (repeat refine Z ?_)
  refine X_cond rfl (fun h => ?_) (fun h => ?_) <;> simp only [decide_eq_true_eq, decide_eq_false_iff_not] at h
  · (repeat refine Z ?_)
    unfold needI
    rw [if_pos (.inr h)]
    refine XE_ret (.inl rfl) (tells_tmps rfl rfl) ⟨_, ⟨rfl, rfl⟩, by exact EN⟩
  (repeat refine Z ?_)
  refine XO_call (up_spec 32 align (by decide) (by decide) h2 h3) (hk := ?_)
  rintro _ _ ⟨rfl, rfl⟩
  (repeat refine Z ?_)
  have hn : needI size align = (upI 32 align).bind fun f => (addI f size).map fun n => (n + 4095) / 4096 := by
    unfold needI; rw [if_neg (fun h' => h'.elim hs h)]
  cases hu : upI 32 align with
  | none =>
    rw [hu] at hn
    refine X_cond rfl (fun _ => ?_) (fun h => by cases h)
    (repeat refine Z ?_)
    rw [hn]
    refine XE_ret (.inl rfl) (tells_tmps rfl rfl) ⟨_, ⟨rfl, rfl⟩, by exact EN⟩
  | some f =>
    rw [hu] at hn
    obtain ⟨u1, u2, u3, u4, u5⟩ := upI_le (by decide) h2 hu
    refine X_cond rfl (fun h => by cases h) (fun _ => ?_)
    (repeat refine Z ?_)
    refine XO_call (add_spec f size (by omega) (by omega) h0 h1) (hk := ?_)
    rintro _ _ ⟨rfl, rfl⟩
    (repeat refine Z ?_)
    cases ha : addI f size with
    | none =>
      have hn2 : needI size align = none := by rw [hn]; simp [ha]
      clear hn
      (repeat refine Z ?_)
      refine XO_call (pages_spec 0 (by decide) (by decide)) (hk := ?_)
      rintro _ _ ⟨rfl, rfl⟩
      (repeat refine Z ?_)
      rw [hn2]
      refine XE_ret (.inl rfl) (tells_tmps rfl rfl) ⟨_, ⟨rfl, rfl⟩, by exact EN⟩
    | some s =>
      obtain ⟨rfl, a2⟩ := add_le ha
      (repeat refine Z ?_)
      refine XO_call (pages_spec (f + size) (by omega) (by omega)) (hk := ?_)
      rintro _ _ ⟨rfl, rfl⟩
      (repeat refine Z ?_)
      rw [hn]
      simp only [Option.bind_some, ha, Option.map_some]
      refine XE_ret (.inl rfl) (tells_tmps rfl rfl) ⟨_, ⟨rfl, rfl⟩, by exact EN⟩
def chunkI (size align : Int) : Int × Bool × Bool := match needI size align with
  | none => (0, false, false)
  | some n => if 1048576 < n then (0, false, false) else if 64 < n then (n, true, true) else (cpages (cclass n), false, true)
theorem need_le {size align n : Int} (h0 : 0 ≤ size) (h2 : 0 ≤ align) (h : needI size align = some n) : 1 ≤ n ∧ n ≤ 4503599627370496 := by
  unfold needI at h
  split at h
  · cases h
  · cases hu : upI 32 align with
    | none => rw [hu] at h; cases h
    | some f =>
      obtain ⟨u1, u2, u3, u4, u5⟩ := upI_le (by decide) h2 hu
      rw [hu, Option.bind_some] at h
      cases ha : addI f size with
      | none => rw [ha] at h; cases h
      | some s =>
        obtain ⟨rfl, a2⟩ := add_le ha
        rw [ha, Option.map_some] at h
        obtain rfl := Option.some.inj h
        omega
theorem chunk_spec (size align : Int) (h0 : 0 ≤ size) (h1 : size ≤ 18446744073709551615) (h2 : 0 ≤ align) (h3 : align ≤ 18446744073709551615) :
    Spec Tryz.prog 63 [.int .u64 size, .int .u64 align] [] (fun v L => v = .tuple #[.int .i64 (chunkI size align).1, .bool (chunkI size align).2.1, .bool (chunkI size align).2.2] ∧ L = []) := by
  refine Spec.intro (IsEnt.out) Tryz.func63 rfl Tryz.ntmps63 (by simp) (fun w0 F => ?_)
  simp only [envOf, List.zipIdx, List.map, List.cons_append, List.nil_append, Nat.zero_add, Nat.reduceAdd]
  (repeat refine Z ?_)
  refine XO_call (need_spec size align h0 h1 h2 h3) (hk := ?_)
  rintro _ _ ⟨rfl, rfl⟩
  cases hn : needI size align with
  | none =>
    have hc : chunkI size align = (0, false, false) := by unfold chunkI; rw [hn]
    rw [hc]
    (repeat refine Z ?_)
    refine X_cond rfl (fun _ => ?_) (fun h => by cases h)
    (repeat refine Z ?_)
    refine XE_ret (.inl rfl) (tells_tmps rfl rfl) ⟨_, ⟨rfl, rfl⟩, by exact EN⟩
  | some n =>
    have hnl := need_le h0 h2 hn
    simp only [Option.getD_some, Option.isSome_some]
    (repeat refine Z ?_)
    refine X_cond rfl (fun h => ?_) (fun h => ?_) <;> simp only [decide_eq_true_eq, decide_eq_false_iff_not] at h
    · have hc : chunkI size align = (0, false, false) := by unfold chunkI; rw [hn]; exact if_pos h
      rw [hc]
      (repeat refine Z ?_)
      refine XE_ret (.inl rfl) (tells_tmps rfl rfl) ⟨_, ⟨rfl, rfl⟩, by exact EN⟩
    · (repeat refine Z ?_)
      refine X_cond rfl (fun h4 => ?_) (fun h4 => ?_) <;> simp only [decide_eq_true_eq, decide_eq_false_iff_not] at h4
      · have hc : chunkI size align = (n, true, true) := by unfold chunkI; rw [hn]; exact (if_neg h).trans (if_pos h4)
        rw [hc]
        (repeat refine Z ?_)
        refine XE_ret (.inl rfl) (tells_tmps rfl rfl) ⟨_, ⟨rfl, rfl⟩, by exact EN⟩
      · have hc : chunkI size align = (cpages (cclass n), false, true) := by unfold chunkI; rw [hn]; exact (if_neg h).trans (if_neg h4)
        rw [hc]
        (repeat refine Z ?_)
        refine XO_call (cclass_spec n) (hk := ?_)
        rintro _ _ ⟨rfl, rfl⟩
        (repeat refine Z ?_)
        refine XO_call (cpages_spec (cclass n)) (hk := ?_)
        rintro _ _ ⟨rfl, rfl⟩
        (repeat refine Z ?_)
        refine XE_ret (.inl rfl) (tells_tmps rfl rfl) ⟨_, ⟨rfl, rfl⟩, by exact EN⟩
end Go.Proofs.YtamecmklcnohjaaGreat.Sep
namespace Go.Proofs.YtamecmklcnohjaaGreat.Sep
open Go.RowKit
set_option linter.unusedSimpArgs false
set_option linter.unusedVariables false
set_option maxHeartbeats 8000000
attribute [local irreducible] X XE XO XD XDi XDa PV RV DV pt base Spec Sl Mp Keeps

def ofI (page pages : Int) : Int × Int := if 0 ≤ page ∧ 1 ≤ pages ∧ pages ≤ 1048576 ∧ page ≤ 1048576 - pages then (page * 4096 + 32, (page + pages) * 4096) else (0, 0)
def fitI (at_ end_ size align : Int) : Option (Int × Int × Int) := (upI at_ align).bind fun s => (addI s size).bind fun en => if size = 0 ∨ end_ < en then none else some (s, en, s - at_)
theorem of1_spec (b1 b2 : Nat) (page pages : Int) : Spec Tryz.prog 120 [.pointer (some ⟨b1, 0, none⟩), .pointer (some ⟨b2, 0, none⟩)] [pt b1 (.cells [.int .i64 page].toArray 3 (0, 0)), pt b2 (.cells [.int .i64 pages].toArray 3 (0, 0))]
    (fun v L => v = .bool (decide (0 ≤ page ∧ 1 ≤ pages ∧ pages ≤ 1048576 ∧ page ≤ 1048576 - pages)) ∧ L = [pt b1 (.cells [.int .i64 page].toArray 3 (0, 0)), pt b2 (.cells [.int .i64 pages].toArray 3 (0, 0))]) := by
  refine Spec.intro (IsEnt.out) Tryz.func120 rfl Tryz.ntmps120 (by simp) (fun w0 F => ?_)
  simp only [envOf, List.zipIdx, List.map, List.cons_append, List.nil_append, Nat.zero_add, Nat.reduceAdd]
  (repeat refine Z ?_)
  refine XO_either (hT := fun h => ?_) (hF := fun h => ?_)
  · simp only [decide_eq_true_eq] at h
    (repeat refine Z ?_)
    refine XO_either (hT := fun h2 => ?_) (hF := fun h2 => ?_)
    · simp only [decide_eq_true_eq] at h2
      (repeat refine Z ?_)
      refine XO_either (hT := fun h3 => ?_) (hF := fun h3 => ?_)
      · simp only [decide_eq_true_eq] at h3
        (repeat refine Z ?_)
        have hd : decide (0 ≤ page ∧ 1 ≤ pages ∧ pages ≤ 1048576 ∧ page ≤ 1048576 - pages) = decide (page ≤ 1048576 - pages) := by
          rw [decide_eq_decide]; exact ⟨fun h' => h'.2.2.2, fun h' => ⟨h, h2, h3, h'⟩⟩
        rw [hd]
        refine XE_ret (.inl rfl) (tells_tmps rfl rfl) ⟨_, ⟨rfl, rfl⟩, by exact EN⟩
      · simp only [decide_eq_false_iff_not] at h3
        rw [decide_eq_false (fun h' => h3 h'.2.2.1)]
        (repeat refine Z ?_)
        refine XE_ret (.inl rfl) (tells_tmps rfl rfl) ⟨_, ⟨rfl, rfl⟩, by exact EN⟩
    · simp only [decide_eq_false_iff_not] at h2
      rw [decide_eq_false (fun h' => h2 h'.2.1)]
      (repeat refine Z ?_)
      refine XE_ret (.inl rfl) (tells_tmps rfl rfl) ⟨_, ⟨rfl, rfl⟩, by exact EN⟩
  · simp only [decide_eq_false_iff_not] at h
    rw [decide_eq_false (fun h' => h h'.1)]
    (repeat refine Z ?_)
    refine XE_ret (.inl rfl) (tells_tmps rfl rfl) ⟨_, ⟨rfl, rfl⟩, by exact EN⟩
theorem bof_spec (page pages : Int) : Spec Tryz.prog 65 [.int .i64 page, .int .i64 pages] [] (fun v L => v = .agg #[.int .u64 (ofI page pages).1, .int .u64 (ofI page pages).2] ∧ L = []) := by
  refine Spec.intro (IsEnt.out) Tryz.func65 rfl Tryz.ntmps65 (by simp) (fun w0 F => ?_)
  simp only [envOf, List.zipIdx, List.map, List.cons_append, List.nil_append, Nat.zero_add, Nat.reduceAdd]
  (repeat refine Z ?_)
  refine XO_dv dv_box1 (hk := ?_)
  rintro _ _ ⟨b1, rfl, rfl⟩
  (repeat refine Z ?_)
  refine XO_dv dv_box1 (hk := ?_)
  rintro _ _ ⟨b2, rfl, rfl⟩
  (repeat refine Z ?_)
  refine XO_dv dv_alloc (hk := ?_)
  rintro _ _ ⟨cb, rfl, rfl⟩
  (repeat refine Z ?_)
  refine XO_call (of1_spec b1 b2 page pages) (hk := ?_)
  rintro _ _ ⟨rfl, rfl⟩
  (repeat refine Z ?_)
  refine X_cond rfl (fun h => ?_) (fun h => ?_)
  · have hn : ¬ (0 ≤ page ∧ 1 ≤ pages ∧ pages ≤ 1048576 ∧ page ≤ 1048576 - pages) := of_decide_eq_false (by simpa only [Bool.not_eq_true'] using h)
    (repeat refine Z ?_)
    refine XO_dv0 dv_storeW (hk := ?_)
    rintro _ _ rfl
    (repeat refine Z ?_)
    unfold ofI
    rw [if_neg hn]
    refine XE_ret (.inl rfl) (tells_cell rfl) ⟨_, ⟨rfl, rfl⟩, by exact EN⟩
  · have hn : 0 ≤ page ∧ 1 ≤ pages ∧ pages ≤ 1048576 ∧ page ≤ 1048576 - pages := by simpa using h
    (repeat refine Z ?_)
    refine XO_dv0 dv_storeW (hk := ?_)
    rintro _ _ rfl
    (repeat refine Z ?_)
    unfold ofI
    rw [if_pos hn]
    refine XE_ret (.inl rfl) (tells_cell rfl) ⟨_, ⟨rfl, rfl⟩, by exact EN⟩
theorem fit_spec (c0 c1 size align : Int) (g0 : 0 ≤ c0) (g1 : c0 ≤ 18446744073709551615) (g2 : 0 ≤ c1) (g3 : c1 ≤ 18446744073709551615) (h0 : 0 ≤ size) (h1 : size ≤ 18446744073709551615) (h2 : 0 ≤ align) (h3 : align ≤ 18446744073709551615) :
    Spec Tryz.prog 114 [.agg #[.int .u64 c0, .int .u64 c1], .int .u64 size, .int .u64 align] [] (fun v L => v = (match fitI c0 c1 size align with | none => .tuple #[.int .u64 0, .agg #[.int .u64 0, .int .u64 0], .int .u64 0, .bool false] | some (s, en, p) => .tuple #[.int .u64 s, .agg #[.int .u64 en, .int .u64 c1], .int .u64 p, .bool true]) ∧ L = []) := by
  refine Spec.intro (IsEnt.out) Tryz.func114 rfl Tryz.ntmps114 (by simp) (fun w0 F => ?_)
  simp only [envOf, List.zipIdx, List.map, List.cons_append, List.nil_append, Nat.zero_add, Nat.reduceAdd]
  (repeat refine Z ?_)
  refine XO_dv dv_box (hk := ?_)
  rintro _ _ ⟨b1, rfl, rfl⟩
  (repeat refine Z ?_)
  refine XO_dv dv_alloc (hk := ?_)
  rintro _ _ ⟨cb, rfl, rfl⟩
  (repeat refine Z ?_)
  refine XO_call (up_spec c0 align g0 g1 h2 h3) (hk := ?_)
  rintro _ _ ⟨rfl, rfl⟩
  cases hu : upI c0 align with
  | none =>
    simp only [Option.getD_none, Option.isSome_none]
    have hf : fitI c0 c1 size align = none := by unfold fitI; rw [hu]; rfl
    rw [hf]
    (repeat refine Z ?_)
    refine XO_call (add_spec 0 size (by decide) (by decide) h0 h1) (hk := ?_)
    rintro _ _ ⟨rfl, rfl⟩
    (repeat refine Z ?_)
    refine X_cond rfl (fun _ => ?_) (fun h => by cases h)
    (repeat refine Z ?_)
    refine XO_dv0 dv_storeW (hk := ?_)
    rintro _ _ rfl
    (repeat refine Z ?_)
    refine XE_ret (.inl rfl) (tells_many (rs := [.tmp _, .cell _ _, .tmp _, .tmp _]) (vs := [_, _, _, _]) rfl ⟨told_tmp, told_cell, told_tmp, told_tmp, trivial⟩) ⟨_, ⟨rfl, rfl⟩, by exact EN⟩
  | some s =>
    obtain ⟨u1, u2, u3, u4, u5⟩ := upI_le g0 h2 hu
    simp only [Option.getD_some, Option.isSome_some]
    (repeat refine Z ?_)
    refine XO_call (add_spec s size (by omega) (by omega) h0 h1) (hk := ?_)
    rintro _ _ ⟨rfl, rfl⟩
    cases ha : addI s size with
    | none =>
      have hf : fitI c0 c1 size align = none := by unfold fitI; rw [hu, Option.bind_some, ha]; rfl
      rw [hf]
      (repeat refine Z ?_)
      refine X_cond rfl (fun _ => ?_) (fun h => by cases h)
      (repeat refine Z ?_)
      refine XO_dv0 dv_storeW (hk := ?_)
      rintro _ _ rfl
      (repeat refine Z ?_)
      refine XE_ret (.inl rfl) (tells_many (rs := [.tmp _, .cell _ _, .tmp _, .tmp _]) (vs := [_, _, _, _]) rfl ⟨told_tmp, told_cell, told_tmp, told_tmp, trivial⟩) ⟨_, ⟨rfl, rfl⟩, by exact EN⟩
    | some en =>
      simp only [Option.getD_some, Option.isSome_some]
      obtain ⟨hen, hlt⟩ := add_le ha
      (repeat refine Z ?_)
      refine XO_either (hT := fun h => ?_) (hF := fun h => ?_)
      · have hs : size = 0 := by simpa using h
        have hf : fitI c0 c1 size align = none := by unfold fitI; rw [hu, Option.bind_some, ha, Option.bind_some, if_pos (.inl hs)]
        rw [hf]
        (repeat refine Z ?_)
        refine X_cond rfl (fun _ => ?_) (fun h => by cases h)
        (repeat refine Z ?_)
        refine XO_dv0 dv_storeW (hk := ?_)
        rintro _ _ rfl
        (repeat refine Z ?_)
        refine XE_ret (.inl rfl) (tells_many (rs := [.tmp _, .cell _ _, .tmp _, .tmp _]) (vs := [_, _, _, _]) rfl ⟨told_tmp, told_cell, told_tmp, told_tmp, trivial⟩) ⟨_, ⟨rfl, rfl⟩, by exact EN⟩
      have hs : ¬ size = 0 := by simpa using h
      (repeat refine Z ?_)
      refine X_cond rfl (fun h2 => ?_) (fun h2 => ?_) <;> simp only [decide_eq_true_eq, decide_eq_false_iff_not] at h2
      · have hf : fitI c0 c1 size align = none := by unfold fitI; rw [hu, Option.bind_some, ha, Option.bind_some, if_pos (.inr h2)]
        rw [hf]
        (repeat refine Z ?_)
        refine XO_dv0 dv_storeW (hk := ?_)
        rintro _ _ rfl
        (repeat refine Z ?_)
        refine XE_ret (.inl rfl) (tells_many (rs := [.tmp _, .cell _ _, .tmp _, .tmp _]) (vs := [_, _, _, _]) rfl ⟨told_tmp, told_cell, told_tmp, told_tmp, trivial⟩) ⟨_, ⟨rfl, rfl⟩, by exact EN⟩
      have hf : fitI c0 c1 size align = some (s, en, s - c0) := by unfold fitI; rw [hu, Option.bind_some, ha, Option.bind_some, if_neg (by omega)]
      rw [hf]
      (repeat refine Z ?_)
      repeat (first | refine Dq ?_ | refine Ds ?_ | refine XDi_gF (h := ?_) | refine XDi_gU (h := ?_) | refine XD_pick (h := ?_) | refine X_draws (h := ?_))
      (refine XD_one (h := ?_); refine XDa_dvA (dv_of_rv (rv_of_pv pv_assign)) (hk := ?_); rintro _ _ ⟨rfl, rfl⟩; refine ⟨by exact KP, ?_⟩)
      refine XD_one (h := ?_)
      refine XDa_dvk0 dv_storeW (K := _) (hk := ?_)
      rintro _ _ rfl
      refine ⟨by exact KP, ?_⟩
      (refine XD_one (h := ?_); refine XDa_dvA (dv_of_rv (rv_of_pv pv_assign)) (hk := ?_); rintro _ _ ⟨rfl, rfl⟩; refine ⟨by exact KP, ?_⟩)
      (refine XD_one (h := ?_); refine XDa_dvA (dv_of_rv (rv_of_pv pv_assign)) (hk := ?_); rintro _ _ ⟨rfl, rfl⟩; refine ⟨by exact KP, ?_⟩)
      refine XD_end (h := ?_)
      (repeat refine Z ?_)
      refine XE_ret (.inl rfl) (tells_many (rs := [.tmp _, .cell _ _, .tmp _, .tmp _]) (vs := [_, _, _, _]) rfl ⟨told_tmp, told_cell, told_tmp, told_tmp, trivial⟩) ⟨_, ⟨rfl, rfl⟩, by exact EN⟩
end Go.Proofs.YtamecmklcnohjaaGreat.Sep
namespace Go.Proofs.YtamecmklcnohjaaGreat.Sep
open Go.RowKit
set_option linter.unusedSimpArgs false
set_option linter.unusedVariables false
abbrev Part := Int × Int × Int × Int
structure Sh where
  parts : List Part
  larges : List (Int × Int)
  obj : Int
  pad : Int
def lastP (l : List Part) : Part := l.getD (l.length - 1) (0, 0, 0, 0)
def setLast (l : List Part) (at_ : Int) : List Part := l.set (l.length - 1) ((lastP l).1, (lastP l).2.1, at_, (lastP l).2.2.2)
def topAt (s : Sh) : Int := (lastP s.parts).2.2.1
def topEnd (s : Sh) : Int := (lastP s.parts).2.2.2
def setTop (s : Sh) (at_ obj pad : Int) : Sh := ⟨setLast s.parts at_, s.larges, obj, pad⟩
theorem setLast_length (l : List Part) (a : Int) : (setLast l a).length = l.length := by simp [setLast]
theorem setLast_self (l : List Part) : setLast l (lastP l).2.2.1 = l := by
  unfold setLast
  cases l with
  | nil => rfl
  | cons x l =>
    have hl : (x :: l).length - 1 < (x :: l).length := by simp
    have : lastP (x :: l) = (x :: l)[(x :: l).length - 1] := by unfold lastP; simp only [List.getD, List.getElem?_eq_getElem hl, Option.getD_some]
    rw [show ((lastP (x :: l)).1, (lastP (x :: l)).2.1, (lastP (x :: l)).2.2.1, (lastP (x :: l)).2.2.2) = lastP (x :: l) from rfl, this]
    exact List.set_getElem_self hl
def fitsS (s : Sh) (mc ml at_ : Int) : Bool :=
  if mc < 0 ∨ (s.parts.length : Int) < mc ∨ ml < 0 ∨ (s.larges.length : Int) < ml then false
  else if mc = 0 then at_ == 0
  else decide ((ofI (s.parts.getD (mc.toNat - 1) (0, 0, 0, 0)).1 (s.parts.getD (mc.toNat - 1) (0, 0, 0, 0)).2.1).1 ≤ at_) && decide (at_ ≤ (s.parts.getD (mc.toNat - 1) (0, 0, 0, 0)).2.2.1)
def emptySh : Sh := ⟨[], [], 0, 0⟩
structure ShOk (s : Sh) : Prop where
  parts : ∀ p ∈ s.parts, 0 ≤ p.1 ∧ p.1 ≤ 1048576 ∧ 0 ≤ p.2.1 ∧ p.2.1 ≤ 1048576 ∧ 0 ≤ p.2.2.1 ∧ p.2.2.1 ≤ 18446744073709551615 ∧ 0 ≤ p.2.2.2 ∧ p.2.2.2 ≤ 18446744073709551615
  larges : ∀ r ∈ s.larges, 0 ≤ r.1 ∧ r.1 ≤ 1048576 ∧ 0 ≤ r.2 ∧ r.2 ≤ 1048576
  obj : 0 ≤ s.obj ∧ s.obj ≤ 18446744073709551615
  pad : 0 ≤ s.pad ∧ s.pad ≤ 18446744073709551615
theorem last_mem {l : List Part} (h : l ≠ []) : lastP l ∈ l := by
  have hp : 0 < l.length := List.length_pos_iff.2 h
  have hl : l.length - 1 < l.length := by omega
  have : lastP l = l[l.length - 1] := by unfold lastP; simp only [List.getD, List.getElem?_eq_getElem hl, Option.getD_some]
  rw [this]; exact List.getElem_mem hl
theorem top_bd {s : Sh} (h : ShOk s) : 0 ≤ topAt s ∧ topAt s ≤ 18446744073709551615 ∧ 0 ≤ topEnd s ∧ topEnd s ≤ 18446744073709551615 := by
  unfold topAt topEnd
  by_cases h0 : s.parts = []
  · rw [h0]; simp [lastP]
  · have := h.parts _ (last_mem h0); omega
theorem setTop_self (s : Sh) : setTop s (topAt s) s.obj s.pad = s := by
  unfold setTop topAt
  rw [setLast_self]
theorem ofI_bd (p n : Int) : 0 ≤ (ofI p n).1 ∧ (ofI p n).1 ≤ 18446744073709551615 ∧ 0 ≤ (ofI p n).2 ∧ (ofI p n).2 ≤ 18446744073709551615 := by
  unfold ofI
  split
  · rename_i h; refine ⟨?_, ?_, ?_, ?_⟩ <;> dsimp only <;> omega
  · exact ⟨by decide, by decide, by decide, by decide⟩
def uw (x : Int) : Int := IntKind.u64.wrap x
theorem uw_bd (x : Int) : 0 ≤ uw x ∧ uw x ≤ 18446744073709551615 := by
  unfold uw; rw [wrap_u64_eq]; omega
def madeS (s : Sh) (size align : Int) : Option Sh := (fitI (topAt s) (topEnd s) size align).map fun q => setTop s q.2.1 (IntKind.u64.wrap (s.obj + size)) (IntKind.u64.wrap (s.pad + q.2.2))
def bigS (s : Sh) (r : Int × Int) (size : Int) : Option (Int × Int × Int) → Sh
  | none => ⟨s.parts, s.larges ++ [r], s.obj, s.pad⟩
  | some q => ⟨s.parts, s.larges ++ [r], IntKind.u64.wrap (s.obj + size), IntKind.u64.wrap (s.pad + q.2.2)⟩
def partS (s : Sh) (r cur : Int × Int) : Sh := ⟨s.parts ++ [(r.1, r.2, cur.1, cur.2)], s.larges, s.obj, s.pad⟩
def growS (C : Co) (s : Sh) (size align : Int) (n : Int) (big : Bool) : (Co × Sh) × Int :=
  if (getC C n).2.2 = 0 then
    (if big = true then (((getC C n).1, bigS s ((getC C n).2.1, n) size (fitI (ofI (getC C n).2.1 n).1 (ofI (getC C n).2.1 n).2 size align)), 0)
      else (((getC C n).1, (madeS (partS s ((getC C n).2.1, n) (ofI (getC C n).2.1 n)) size align).getD (partS s ((getC C n).2.1, n) (ofI (getC C n).2.1 n))), 0))
  else (((getC C n).1, s), (getC C n).2.2)
def allocS (C : Co) (s : Sh) (size align : Int) : (Co × Sh) × Int :=
  if size = 0 ∨ (needI 1 align).isSome = false then ((C, s), 1) else match madeS s size align with
  | some s' => ((C, s'), 0)
  | none => if (chunkI size align).2.2 = false then ((C, s), 4) else growS C s size align (chunkI size align).1 (chunkI size align).2.1
theorem lastP_append (l : List Part) (x : Part) : lastP (l ++ [x]) = x := by simp [lastP, List.getD]
def runP (p : Part) : Int × Int := (p.1, p.2.1)
def cutS (s : Sh) (mc ml : Int) : Sh := ⟨s.parts.take mc.toNat, s.larges.take ml.toNat, s.obj, s.pad⟩
def putsC (C : Co) (s : Sh) (mc ml : Int) : Co := (((s.parts.map runP).drop mc.toNat).reverse).foldl putC (((s.larges.drop ml.toNat).reverse).foldl putC C)
def rewS (C : Co) (s : Sh) (mc ml at_ ob pd : Int) : Option (Co × Sh) :=
  if fitsS s mc ml at_ = true then some (putsC C s mc ml, if [mc, ml, at_, ob, pd] = [0, 0, 0, 0, 0] then emptySh else setTop (cutS s mc ml) at_ ob pd) else none
def shPages (s : Sh) : Int := totI (s.parts.map runP) + totI s.larges
def shHdr (s : Sh) : Int := 32 * ((s.parts.length : Int) + (s.larges.length : Int))
theorem wrap_add (x y : Int) : IntKind.u64.wrap (IntKind.u64.wrap x + y) = IntKind.u64.wrap (x + y) := by
  simp only [wrap_u64_eq]; omega
structure ShB (s : Sh) : Prop where
  ok : ShOk s
  lp : s.parts.length ≤ 1048576
  ll : s.larges.length ≤ 1048576
def mKs : List IntKind := [.i64, .i64, .i64, .i64, .u64, .u64, .u64, .u64]
instance teq_meter : TEq Tryz.prog 51 [.i64, .i64, .i64, .i64, .u64, .u64, .u64, .u64] := ⟨_, Tryz.underlying51, by kernel_rfl, by kernel_rfl, ⟨by decide, rfl, Tryz.underlying3, by decide, rfl, Tryz.underlying3, by decide, rfl, Tryz.underlying3, by decide, rfl, Tryz.underlying3, by decide, rfl, Tryz.underlying32, by decide, rfl, Tryz.underlying32, by decide, rfl, Tryz.underlying32, by decide, rfl, Tryz.underlying32, trivial⟩⟩
theorem tot_right {P : Int} : ∀ {l : List (Int × Int)} {lo : Int}, lo ≤ P + 1 → RightFrom P lo l → 0 ≤ totI l ∧ totI l ≤ P + 1 - lo
  | [], lo, h, _ => by simp [totI]; omega
  | r :: l, lo, h, ⟨h1, h2, h3, h4⟩ => by
    have := tot_right (by omega) h4
    rw [tot_cons]; omega
end Go.Proofs.YtamecmklcnohjaaGreat.Sep
namespace Go.Proofs.YtamecmklcnohjaaGreat.Sep
open Go.RowKit
set_option linter.unusedSimpArgs false
set_option linter.unusedVariables false
theorem chunk_n {size align n : Int} {big : Bool} (h0 : 0 ≤ size) (h2 : 0 ≤ align) (h : chunkI size align = (n, big, true)) : 1 ≤ n ∧ (0 ≤ cclass n → cpages (cclass n) = n) ∧ n ≤ 1048576 := by
  unfold chunkI at h
  cases hn : needI size align with
  | none => rw [hn] at h; cases h
  | some m =>
    rw [hn] at h
    have hm := need_le h0 h2 hn
    simp only at h
    split at h
    · cases h
    · split at h
      · rename_i h3 h4
        injection h with h5 h6
        subst h5
        refine ⟨by omega, fun hc => ?_, by omega⟩
        exfalso
        have : cclass m = -1 := by
          unfold cclass
          repeat' split
          all_goals omega
        omega
      · rename_i h3 h4
        injection h with h5 h6
        subst h5
        obtain ⟨a1, a2⟩ := class_self (m := m) (by omega) (by omega)
        refine ⟨a1, fun _ => a2, ?_⟩
        unfold cpages
        split
        · rename_i hq
          have : (cclass m).toNat ≤ 6 := by omega
          have : 2 ^ (cclass m).toNat ≤ 2 ^ 6 := Nat.pow_le_pow_right (by decide) this
          omega
        · omega
structure PInv (P : Int) (s : Sh) : Prop where
  parts : ∀ r ∈ s.parts.map runP, RunOk P r
  larges : ∀ r ∈ s.larges, RunOk P r
def cS (x : Int) (s : Sh) : Int := cnt x (s.parts.map runP) + cnt x s.larges
theorem cS_nn (x : Int) (s : Sh) : 0 ≤ cS x s := by have := cnt_nn x (s.parts.map runP); have := cnt_nn x s.larges; unfold cS; omega
theorem setLast_runP (l : List Part) (a : Int) : (setLast l a).map runP = l.map runP := by
  unfold setLast
  rw [List.map_set]
  cases l with
  | nil => rfl
  | cons x l =>
    have hl : (x :: l).length - 1 < (x :: l).length := by simp
    have h1 : lastP (x :: l) = (x :: l)[(x :: l).length - 1] := by unfold lastP; simp only [List.getD, List.getElem?_eq_getElem hl, Option.getD_some]
    have h2 : runP ((lastP (x :: l)).1, (lastP (x :: l)).2.1, a, (lastP (x :: l)).2.2.2) = ((x :: l).map runP)[(x :: l).length - 1]'(by simp) := by
      rw [List.getElem_map, ← h1]; rfl
    rw [h2, List.set_getElem_self]
structure SInv (P : Int) (B : Nat) (s : Sh) : Prop where
  ok : ShOk s
  pi : PInv P s
  lp : s.parts.length ≤ B
  ll : s.larges.length ≤ B
theorem setTop_inv {P : Int} {B : Nat} {s : Sh} (h : SInv P B s) {a o p : Int} (ha : 0 ≤ a ∧ a ≤ 18446744073709551615) (ho : 0 ≤ o ∧ o ≤ 18446744073709551615) (hp : 0 ≤ p ∧ p ≤ 18446744073709551615) :
    SInv P B (setTop s a o p) ∧ (∀ x, cS x (setTop s a o p) = cS x s) ∧ shPages (setTop s a o p) = shPages s := by
  refine ⟨⟨⟨fun q hq => ?_, h.ok.larges, ho, hp⟩, ⟨?_, h.pi.larges⟩, ?_, h.ll⟩, fun x => ?_, ?_⟩
  · have hq : q ∈ setLast s.parts a := hq
    unfold setLast at hq
    rcases List.mem_or_eq_of_mem_set hq with hq | rfl
    · exact h.ok.parts q hq
    · have hne : s.parts ≠ [] := by rintro h0; rw [h0] at hq; simp at hq
      have := h.ok.parts _ (last_mem hne)
      dsimp only
      omega
  · show ∀ r ∈ (setLast s.parts a).map runP, _
    rw [setLast_runP]; exact h.pi.parts
  · show (setLast s.parts a).length ≤ B
    rw [setLast_length]; exact h.lp
  · show cnt x ((setLast s.parts a).map runP) + _ = _
    rw [setLast_runP]; rfl
  · show totI ((setLast s.parts a).map runP) + _ = _
    rw [setLast_runP]; rfl
theorem fit_bd {at_ en size align : Int} {q : Int × Int × Int} (h0 : 0 ≤ at_) (h2 : 0 ≤ align) (hs : 0 ≤ size) (h : fitI at_ en size align = some q) : at_ ≤ q.2.1 ∧ q.2.1 ≤ en := by
  unfold fitI at h
  cases hu : upI at_ align with
  | none => rw [hu] at h; cases h
  | some s =>
    rw [hu, Option.bind_some] at h
    cases ha : addI s size with
    | none => rw [ha] at h; cases h
    | some e2 =>
      rw [ha, Option.bind_some] at h
      split at h
      · cases h
      · rename_i hc
        cases h
        have := upI_le h0 h2 hu
        have := add_le ha
        dsimp only
        omega
theorem made_inv {P : Int} {B : Nat} {s s' : Sh} {size align : Int} (h : SInv P B s) (hs : 0 ≤ size) (h2 : 0 ≤ align) (hm : madeS s size align = some s') :
    SInv P B s' ∧ (∀ x, cS x s' = cS x s) ∧ shPages s' = shPages s := by
  unfold madeS at hm
  cases hf : fitI (topAt s) (topEnd s) size align with
  | none => rw [hf] at hm; cases hm
  | some q =>
    rw [hf, Option.map_some, Option.some.injEq] at hm
    subst hm
    have ht := top_bd h.ok
    have hq := fit_bd ht.1 h2 hs hf
    exact setTop_inv h (by omega) (uw_bd _) (uw_bd _)
theorem part_inv {P : Int} {B : Nat} {s : Sh} {r cur : Int × Int} (hP : P ≤ 1048576) (h : SInv P B s) (hr : RunOk P r) (hc : 0 ≤ cur.1 ∧ cur.1 ≤ 18446744073709551615 ∧ 0 ≤ cur.2 ∧ cur.2 ≤ 18446744073709551615) :
    SInv P (B + 1) (partS s r cur) ∧ (∀ x, cS x (partS s r cur) = cS x s + ind x r) ∧ shPages (partS s r cur) = shPages s + r.2 := by
  have hr' := hr
  obtain ⟨r1, r2, r3⟩ := hr'
  have hmap : (partS s r cur).parts.map runP = s.parts.map runP ++ [r] := by unfold partS; rw [List.map_append]; rfl
  refine ⟨⟨⟨fun q hq => ?_, h.ok.larges, h.ok.obj, h.ok.pad⟩, ⟨?_, h.pi.larges⟩, ?_, by have := h.ll; show s.larges.length ≤ _; omega⟩, fun x => ?_, ?_⟩
  · rcases List.mem_append.1 hq with hq | hq
    · exact h.ok.parts q hq
    · simp at hq; subst hq; dsimp only; omega
  · rw [hmap]
    intro q hq
    rcases List.mem_append.1 hq with hq | hq
    · exact h.pi.parts q hq
    · simp at hq; subst hq; exact hr
  · have := h.lp
    show (s.parts ++ [_]).length ≤ _
    simp; omega
  · show cnt x ((partS s r cur).parts.map runP) + cnt x s.larges = cnt x (s.parts.map runP) + cnt x s.larges + ind x r
    rw [hmap, cnt_append]; simp only [cnt]; omega
  · show totI ((partS s r cur).parts.map runP) + totI s.larges = totI (s.parts.map runP) + totI s.larges + r.2
    rw [hmap, tot_append]; simp [totI]; omega
theorem big_inv {P : Int} {B : Nat} {s : Sh} {r : Int × Int} {size : Int} (f : Option (Int × Int × Int)) (hP : P ≤ 1048576) (h : SInv P B s) (hr : RunOk P r) :
    SInv P (B + 1) (bigS s r size f) ∧ (∀ x, cS x (bigS s r size f) = cS x s + ind x r) ∧ shPages (bigS s r size f) = shPages s + r.2 := by
  have hr' := hr
  obtain ⟨r1, r2, r3⟩ := hr'
  have hp : (bigS s r size f).parts = s.parts := by cases f <;> rfl
  have hl : (bigS s r size f).larges = s.larges ++ [r] := by cases f <;> rfl
  have ho : 0 ≤ (bigS s r size f).obj ∧ (bigS s r size f).obj ≤ 18446744073709551615 := by
    cases f with
    | none => exact h.ok.obj
    | some q => exact uw_bd _
  have hd : 0 ≤ (bigS s r size f).pad ∧ (bigS s r size f).pad ≤ 18446744073709551615 := by
    cases f with
    | none => exact h.ok.pad
    | some q => exact uw_bd _
  refine ⟨⟨⟨by rw [hp]; exact h.ok.parts, ?_, ho, hd⟩, ⟨by rw [hp]; exact h.pi.parts, ?_⟩, by rw [hp]; have := h.lp; omega, by rw [hl]; have := h.ll; simp; omega⟩, fun x => ?_, ?_⟩
  · rw [hl]
    intro q hq
    rcases List.mem_append.1 hq with hq | hq
    · exact h.ok.larges q hq
    · simp at hq; subst hq; omega
  · rw [hl]
    intro q hq
    rcases List.mem_append.1 hq with hq | hq
    · exact h.pi.larges q hq
    · simp at hq; subst hq; exact hr
  · unfold cS; rw [hp, hl, cnt_append]; simp only [cnt]; omega
  · unfold shPages; rw [hp, hl, tot_append]; simp [totI]; omega
theorem SInv.up {P : Int} {B : Nat} {s : Sh} (h : SInv P B s) : SInv P (B + 1) s := ⟨h.ok, h.pi, by have := h.lp; omega, by have := h.ll; omega⟩
theorem alloc_inv {C : Co} {B : Nat} {s : Sh} {size align : Int} (hC : CInv C) (hs : SInv C.P B s) (hd : ∀ x, cC x C + cS x s ≤ 1) (h0 : 0 ≤ size) (h2 : 0 ≤ align) :
    CInv (allocS C s size align).1.1 ∧ (allocS C s size align).1.1.P = C.P ∧ SInv C.P (B + 1) (allocS C s size align).1.2 ∧ (∀ x, cC x (allocS C s size align).1.1 + cS x (allocS C s size align).1.2 = cC x C + cS x s) ∧
      tC (allocS C s size align).1.1 + shPages (allocS C s size align).1.2 = tC C + shPages s := by
  have hP := hC.ok.p2
  unfold allocS
  split
  · exact ⟨hC, rfl, hs.up, fun _ => rfl, rfl⟩
  · cases hm : madeS s size align with
    | some s' =>
      obtain ⟨g1, g2, g3⟩ := made_inv hs h0 h2 hm
      exact ⟨hC, rfl, g1.up, fun x => by dsimp only; rw [g2 x], by dsimp only; rw [g3]⟩
    | none =>
      dsimp only
      split
      · exact ⟨hC, rfl, hs.up, fun _ => rfl, rfl⟩
      · rename_i hok
        obtain ⟨n, big, ok, hch⟩ : ∃ n big ok, chunkI size align = (n, big, ok) := ⟨_, _, _, rfl⟩
        rw [hch] at hok ⊢
        have hok : ok = true := by simpa using hok
        subst hok
        obtain ⟨c1, c2, c3⟩ := chunk_n h0 h2 hch
        obtain ⟨g1, g2, g3, g4⟩ := get_inv (n := n) hC (fun x => by have := hd x; have := cS_nn x s; omega) c1 c2
        dsimp only
        unfold growS
        split
        · rename_i he
          obtain ⟨a1, a2, a3⟩ := g3 he
          have hob := ofI_bd (getC C n).2.1 n
          split
          · obtain ⟨b1, b2, b3⟩ := big_inv (size := size) (fitI (ofI (getC C n).2.1 n).1 (ofI (getC C n).2.1 n).2 size align) hP hs a1
            refine ⟨g1, g2, b1, fun x => ?_, ?_⟩
            · dsimp only; rw [b2 x, a2 x]; omega
            · dsimp only; rw [b3, a3]; dsimp only; omega
          · obtain ⟨b1, b2, b3⟩ := part_inv hP hs a1 hob
            cases hm2 : madeS (partS s ((getC C n).2.1, n) (ofI (getC C n).2.1 n)) size align with
            | none =>
              refine ⟨g1, g2, b1, fun x => ?_, ?_⟩
              · dsimp only [Option.getD_none]; rw [b2 x, a2 x]; omega
              · dsimp only [Option.getD_none]; rw [b3, a3]; dsimp only; omega
            | some s2 =>
              obtain ⟨d1, d2, d3⟩ := made_inv b1 h0 h2 hm2
              refine ⟨g1, g2, d1, fun x => ?_, ?_⟩
              · dsimp only [Option.getD_some]; rw [d2 x, b2 x, a2 x]; omega
              · dsimp only [Option.getD_some]; rw [d3, b3, a3]; dsimp only; omega
        · rename_i he
          obtain ⟨a1, a2⟩ := g4 he
          exact ⟨g1, g2, hs.up, fun x => by dsimp only; rw [a1 x], by dsimp only; rw [a2]⟩
end Go.Proofs.YtamecmklcnohjaaGreat.Sep
namespace Go.Proofs.YtamecmklcnohjaaGreat.Sep
open Go.RowKit
set_option linter.unusedSimpArgs false
set_option linter.unusedVariables false
abbrev badA (size align : Int) : Prop := size = 0 ∨ (needI 1 align).isSome = false
theorem need1_iff {align : Int} (h2 : 0 ≤ align) (h3 : align ≤ 18446744073709551615) : (needI 1 align).isSome = (powB align && decide (align ≤ 4096)) := by
  unfold needI
  by_cases h : 4096 < align
  · rw [if_pos (.inr h), decide_eq_false (by omega), Bool.and_false]; rfl
  · rw [if_neg (by omega), decide_eq_true (by omega), Bool.and_true]
    unfold upI
    cases hp : powB align with
    | false => rfl
    | true =>
      rw [if_pos rfl]
      have hpos : 0 < align := by
        rcases (powB_iff h2).1 hp with ⟨k, rfl⟩
        have : 0 < 2 ^ k := Nat.pow_pos (by decide)
        omega
      have := Int.emod_nonneg (-32) (show align ≠ 0 by omega)
      have := Int.emod_lt_of_pos (-32) hpos
      unfold addI
      rw [if_pos (by omega)]
      simp only [Option.bind_some]
      rw [if_pos (by omega)]
      rfl
theorem pow_dvd {align : Int} (h2 : 0 ≤ align) (hp : powB align = true) (h : align ≤ 4096) : 0 < align ∧ (4096 : Int) % align = 0 := by
  rcases (powB_iff h2).1 hp with ⟨k, rfl⟩
  have h1 : 0 < 2 ^ k := Nat.pow_pos (by decide)
  refine ⟨by omega, ?_⟩
  have hk : k ≤ 12 := by
    by_cases hk : k ≤ 12
    · exact hk
    · have : 2 ^ 13 ≤ 2 ^ k := Nat.pow_le_pow_right (by decide) (by omega)
      omega
  have h2 : 4096 % (2 ^ k) = 0 := Nat.mod_eq_zero_of_dvd (show 2 ^ k ∣ 2 ^ 12 from Nat.pow_dvd_pow 2 hk)
  generalize 2 ^ k = z at h2
  have h3 : ((4096 % z : Nat) : Int) = ((4096 : Nat) : Int) % (z : Int) := Int.natCast_emod _ _
  rw [h2] at h3
  exact h3.symm
theorem good_al {size align : Int} (h2 : 0 ≤ align) (h3 : align ≤ 18446744073709551615) (hb : ¬ badA size align) : size ≠ 0 ∧ powB align = true ∧ 0 < align ∧ align ≤ 4096 ∧ (4096 : Int) % align = 0 := by
  unfold badA at hb
  rw [not_or, need1_iff h2 h3] at hb
  obtain ⟨b1, b2⟩ := hb
  have b3 : powB align = true ∧ align ≤ 4096 := by
    cases hp : powB align with
    | false => rw [hp] at b2; simp at b2
    | true => rw [hp] at b2; simp at b2; exact ⟨rfl, b2⟩
  obtain ⟨b4, b5⟩ := pow_dvd h2 b3.1 b3.2
  exact ⟨b1, b3.1, b4, b3.2, b5⟩
theorem fit_some {at_ en size align : Int} {q : Int × Int × Int} (h0 : 0 ≤ at_) (h2 : 0 < align) (hs : 0 ≤ size) (h : fitI at_ en size align = some q) :
    q.1 = at_ + (-at_) % align ∧ q.2.1 = q.1 + size ∧ q.2.2 = (-at_) % align ∧ at_ ≤ q.1 ∧ q.1 % align = 0 ∧ q.2.1 ≤ en ∧ 0 ≤ (-at_) % align ∧ (-at_) % align < align := by
  unfold fitI at h
  cases hu : upI at_ align with
  | none => rw [hu] at h; cases h
  | some s =>
    rw [hu, Option.bind_some] at h
    cases ha : addI s size with
    | none => rw [ha] at h; cases h
    | some e2 =>
      rw [ha, Option.bind_some] at h
      split at h
      · cases h
      · rename_i hc
        cases h
        obtain ⟨u1, u2, u3, u4, u5⟩ := upI_le h0 (by omega) hu
        obtain ⟨a1, a2⟩ := add_le ha
        have e1 := Int.emod_nonneg (-at_) (show align ≠ 0 by omega)
        have e2 := Int.emod_lt_of_pos (-at_) h2
        refine ⟨u5, a1, by dsimp only; omega, u1, ?_, by dsimp only; omega, e1, e2⟩
        dsimp only
        rw [u5, Int.add_emod, Int.emod_emod, ← Int.add_emod, Int.add_right_neg, Int.zero_emod]
theorem fit_make {at_ en size align : Int} (h0 : 0 ≤ at_) (h2 : 0 < align) (hp : powB align = true) (hs : size ≠ 0) (hs0 : 0 ≤ size) (h : at_ + (-at_) % align + size ≤ en) (he : en < 18446744073709551616) :
    fitI at_ en size align = some (at_ + (-at_) % align, at_ + (-at_) % align + size, (-at_) % align) := by
  have e1 := Int.emod_nonneg (-at_) (show align ≠ 0 by omega)
  have hu : upI at_ align = some (at_ + (-at_) % align) := by
    unfold upI addI; rw [if_pos hp, if_pos (by omega)]
  have ha : addI (at_ + (-at_) % align) size = some (at_ + (-at_) % align + size) := by unfold addI; rw [if_pos (by omega)]
  unfold fitI
  rw [hu, Option.bind_some, ha, Option.bind_some, if_neg (by omega)]
  congr 2
  congr 1
  omega
theorem page_mod {align pg : Int} (h : (4096 : Int) % align = 0) (c : Int) : (-(pg * 4096 + c)) % align = (-c) % align := by
  have hd : align ∣ 4096 := Int.dvd_of_emod_eq_zero h
  have h1 : align ∣ pg * 4096 := Int.dvd_mul_of_dvd_right hd
  have : -(pg * 4096 + c) = -c - pg * 4096 := by omega
  rw [this, Int.sub_emod, Int.emod_eq_zero_of_dvd h1, Int.sub_zero, Int.emod_emod]
theorem ofI_run {P pg n : Int} (hP : P ≤ 1048576) (h : RunOk P (pg, n)) : ofI pg n = (pg * 4096 + 32, (pg + n) * 4096) := by
  unfold RunOk at h
  simp only at h
  unfold ofI
  rw [if_pos (by omega)]
theorem cls_bd {p : Int} (h1 : 1 ≤ p) (h2 : p ≤ 64) : cpages (cclass p) ≤ 64 ∧ p ≤ cpages (cclass p) := by
  have hc : (p ≤ 1 ∧ cclass p = 0) ∨ (p ≤ 2 ∧ 2 ≤ p ∧ cclass p = 1) ∨ (p ≤ 4 ∧ 3 ≤ p ∧ cclass p = 2) ∨ (p ≤ 8 ∧ 5 ≤ p ∧ cclass p = 3) ∨ (p ≤ 16 ∧ 9 ≤ p ∧ cclass p = 4) ∨ (p ≤ 32 ∧ 17 ≤ p ∧ cclass p = 5) ∨ (p ≤ 64 ∧ 33 ≤ p ∧ cclass p = 6) := by
    unfold cclass
    repeat' split
    all_goals omega
  rcases hc with ⟨a, b⟩ | ⟨a, a', b⟩ | ⟨a, a', b⟩ | ⟨a, a', b⟩ | ⟨a, a', b⟩ | ⟨a, a', b⟩ | ⟨a, a', b⟩ <;> rw [b]
  · exact ⟨by decide, a⟩
  · exact ⟨by decide, a⟩
  · exact ⟨by decide, a⟩
  · exact ⟨by decide, a⟩
  · exact ⟨by decide, a⟩
  · exact ⟨by decide, a⟩
  · exact ⟨by decide, a⟩
theorem chunk_fit {P size align n pg : Int} {big : Bool} (h0 : 0 ≤ size) (h2 : 0 ≤ align) (h3 : align ≤ 18446744073709551615) (hb : ¬ badA size align) (hc : chunkI size align = (n, big, true)) (hP : P ≤ 1048576) (hr : RunOk P (pg, n)) :
    fitI (ofI pg n).1 (ofI pg n).2 size align = some (pg * 4096 + 32 + (-32) % align, pg * 4096 + 32 + (-32) % align + size, (-32) % align) ∧ 0 ≤ (-32) % align ∧ (-32) % align < align ∧
      (if big = true then 64 < n ∧ n = (32 + (-32) % align + size + 4095) / 4096 else n ≤ 64 ∧ (32 + (-32) % align + size + 4095) / 4096 ≤ n) := by
  obtain ⟨g1, g2, g3, g4, g5⟩ := good_al h2 h3 hb
  have e1 := Int.emod_nonneg (-32) (show align ≠ 0 by omega)
  have e2 := Int.emod_lt_of_pos (-32) g3
  have hc0 := hc
  obtain ⟨c1, c2, c3⟩ := chunk_n h0 h2 hc
  unfold chunkI at hc
  cases hn : needI size align with
  | none => rw [hn] at hc; cases hc
  | some k =>
    have hk0 := need_le h0 h2 hn
    have hk : k = (32 + (-32) % align + size + 4095) / 4096 := by
      unfold needI at hn
      rw [if_neg (by omega)] at hn
      have hu : upI 32 align = some (32 + (-32) % align) := by unfold upI addI; rw [if_pos g2, if_pos (by omega)]
      rw [hu, Option.bind_some] at hn
      cases ha : addI (32 + (-32) % align) size with
      | none => rw [ha] at hn; cases hn
      | some s =>
        rw [ha] at hn
        have := (add_le ha).1
        cases hn
        rw [this]
    rw [hn] at hc
    simp only at hc
    have hbn : (if big = true then 64 < n ∧ n = k else n ≤ 64 ∧ k ≤ n) := by
      split at hc
      · cases hc
      · split at hc
        · rename_i h5 h6
          cases hc
          exact ⟨h6, rfl⟩
        · rename_i h5 h6
          cases hc
          exact cls_bd (by omega) (by omega)
    have hkn : k ≤ n := by
      cases big
      · exact hbn.2
      · have := hbn.2; omega
    have hr' := hr
    unfold RunOk at hr'
    simp only at hr'
    refine ⟨?_, e1, e2, by rw [← hk]; exact hbn⟩
    rw [ofI_run hP hr]
    have hm := page_mod g5 32 (pg := pg)
    have := fit_make (at_ := pg * 4096 + 32) (en := (pg + n) * 4096) (size := size) (align := align) (by omega) g3 g2 g1 h0 (by rw [hm]; omega) (by omega)
    rw [this, hm]
end Go.Proofs.YtamecmklcnohjaaGreat.Sep
namespace Go.Proofs.YtamecmklcnohjaaGreat.Sep
open Go.RowKit
set_option linter.unusedSimpArgs false
set_option linter.unusedVariables false
theorem KInv.mem {C : Co} {m m' : Int → Int} {got : List (Int × Hd)} {p : Int} {hd : Hd} (h : KInv C m got) (hq : (p, hd) ∈ got) (hm : ∀ a, ¬ (p * 4096 + 32 ≤ a ∧ a < (p + hd.pages) * 4096) → m' a = m a) : KInv C m' got := by
  refine ⟨h.ci, h.run, h.part, h.tot, fun q hqq => ⟨?_, (h.hdr q hqq).2⟩⟩
  rw [← (h.hdr q hqq).1]
  refine rdM_ext fun a h0 h1 => hm a fun h2 => ?_
  obtain ⟨l1, l2, rfl⟩ := List.append_of_mem hq
  have hrp : RunOk C.P (p, hd.pages) := h.run (p, hd) hq
  have hq2 : q = (p, hd) ∨ q ∈ l1 ++ l2 := by
    rcases List.mem_append.1 hqq with h3 | h3
    · exact .inr (by simp [h3])
    · rcases List.mem_cons.1 h3 with h3 | h3
      · exact .inl h3
      · exact .inr (by simp [h3])
  rcases hq2 with rfl | hq2
  · simp only at h0 h1; omega
  · have h3 := h.part q.1
    have h4 := part_le1 (x := q.1) (P := C.P)
    have h5 : cnt q.1 (gr (l1 ++ (p, hd) :: l2)) = cnt q.1 (gr (l1 ++ l2)) + ind q.1 (p, hd.pages) := by
      rw [gr_app, gr_app, cnt_append, cnt_append]
      show _ + (ind q.1 (p, hd.pages) + cnt q.1 (gr l2)) = _
      omega
    have h6 : ind q.1 (p, hd.pages) = 1 := by unfold ind; rw [if_pos]; simp only; omega
    have h7 := cnt_mem (x := q.1) (r := (q.1, q.2.pages)) (l := gr (l1 ++ l2)) (List.mem_map.2 ⟨q, hq2, rfl⟩)
    have hrq : RunOk C.P (q.1, q.2.pages) := h.run q (by rcases List.mem_append.1 hq2 with hq | hq <;> simp [hq])
    have h8 : ind q.1 (q.1, q.2.pages) = 1 := ind_self hrq.2.1
    have h9 := cC_nn q.1 C
    omega
def gotR (o : Int) (s : Sh) : List (Int × Hd) := plH 0 o 0 (s.parts.map runP) ++ plH 1 o 0 s.larges
theorem gotR_cnt (o x : Int) (s : Sh) : cnt x (gr (gotR o s)) = cS x s := by unfold gotR cS; rw [gr_app, cnt_append, plH_gr, plH_gr]
theorem gotR_setTop (o : Int) (s : Sh) (a b c : Int) : gotR o (setTop s a b c) = gotR o s := by unfold gotR setTop; simp only; rw [setLast_runP]
def PtOk (p : Part) : Prop := p.2.2.2 = (p.1 + p.2.1) * 4096 ∧ p.1 * 4096 + 32 ≤ p.2.2.1 ∧ p.2.2.1 ≤ p.2.2.2 ∧ p.2.1 ≤ 64
structure RInv (P : Int) (B : Nat) (o : Int) (C : Co) (m : Int → Int) (s : Sh) (oth : List (Int × Hd)) : Prop where
  K : KInv C m (gotR o s ++ oth)
  hP : C.P = P
  S : SInv P B s
  po : ∀ p ∈ s.parts, PtOk p
theorem RInv.up {P : Int} {B : Nat} {o : Int} {C : Co} {m : Int → Int} {s : Sh} {oth : List (Int × Hd)} (h : RInv P B o C m s oth) : RInv P (B + 1) o C m s oth := ⟨h.K, h.hP, h.S.up, h.po⟩
theorem RInv.le {P : Int} {B B' : Nat} {o : Int} {C : Co} {m : Int → Int} {s : Sh} {oth : List (Int × Hd)} (h : RInv P B o C m s oth) (hB : B ≤ B') : RInv P B' o C m s oth := ⟨h.K, h.hP, ⟨h.S.ok, h.S.pi, Nat.le_trans h.S.lp hB, Nat.le_trans h.S.ll hB⟩, h.po⟩
theorem RInv.P1 {P : Int} {B : Nat} {o : Int} {C : Co} {m : Int → Int} {s : Sh} {oth : List (Int × Hd)} (h : RInv P B o C m s oth) : 1 ≤ P ∧ P ≤ 1048576 := by
  have h1 := h.K.ci.ok.p1
  have h2 := h.K.ci.ok.p2
  rw [h.hP] at h1 h2
  exact ⟨h1, h2⟩
theorem kruns {C : Co} {m : Int → Int} {got : List (Int × Hd)} (h : KInv C m got) : got.length ≤ 1048576 := by
  have h1 := h.tot
  have h2 : ∀ r ∈ gr got, 1 ≤ r.2 := fun r hr => by
    obtain ⟨q, hq, rfl⟩ := List.mem_map.1 hr
    exact (h.run q hq).2.1
  have h3 : ∀ l : List (Int × Int), (∀ r ∈ l, 1 ≤ r.2) → (l.length : Int) ≤ totI l := by
    intro l
    induction l with
    | nil => intro _; exact Int.le_refl _
    | cons r l ih =>
      intro h
      have := h r (by simp)
      have := ih fun q hq => h q (by simp [hq])
      rw [tot_cons]; simp; omega
  have h4 := h3 _ h2
  have h5 : 0 ≤ tC C := by
    have a1 := h3 C.fr fun r hr => (rf_mem h.ci.ok.right r hr).2.1
    have a2 := h3 (kall C.ks 7) fun r hr => (kall_bd h.ci.ok hr).2.2.1
    unfold tC; omega
  have h6 := h.ci.ok.p2
  have h7 : (gr got).length = got.length := by simp [gr]
  omega
theorem RInv.len {P : Int} {B : Nat} {o : Int} {C : Co} {m : Int → Int} {s : Sh} {oth : List (Int × Hd)} (h : RInv P B o C m s oth) : s.parts.length ≤ 1048576 ∧ s.larges.length ≤ 1048576 := by
  have h1 := kruns h.K
  unfold gotR at h1
  simp only [List.length_append, plH_len, List.length_map] at h1
  omega
theorem RInv.cur {P : Int} {B : Nat} {o : Int} {C : Co} {m : Int → Int} {s : Sh} {oth : List (Int × Hd)} (h : RInv P B o C m s oth) (hne : s.parts ≠ []) :
    lastP s.parts ∈ s.parts ∧ RunOk P (runP (lastP s.parts)) ∧ PtOk (lastP s.parts) := ⟨last_mem hne, h.S.pi.parts _ (List.mem_map.2 ⟨_, last_mem hne, rfl⟩), h.po _ (last_mem hne)⟩
inductive AR (P : Int) (C : Co) (m : Mm) (s : Sh) (o size align : Int) : Co → Mm → Sh → Int → Int → Prop
  | bad : badA size align → AR P C m s o size align C m s 0 1
  | fit (q : Int × Int × Int) : ¬ badA size align → fitI (topAt s) (topEnd s) size align = some q → AR P C m s o size align C m (setTop s q.2.1 (IntKind.u64.wrap (s.obj + size)) (IntKind.u64.wrap (s.pad + q.2.2))) q.1 0
  | huge : ¬ badA size align → fitI (topAt s) (topEnd s) size align = none → (chunkI size align).2.2 = false → AR P C m s o size align C m s 0 4
  | full (n : Int) (big : Bool) : ¬ badA size align → fitI (topAt s) (topEnd s) size align = none → chunkI size align = (n, big, true) → (getC C n).2.2 ≠ 0 → AR P C m s o size align (trimC C) m s 0 4
  | big (n pg : Int) : ¬ badA size align → fitI (topAt s) (topEnd s) size align = none → chunkI size align = (n, true, true) → (getC C n).2 = (pg, 0) →
      AR P C m s o size align (getC C n).1 (zzM (pushM P m 1 o (lastL 0 s.larges) pg n) (pg * 4096 + 32) (n * 4096 - 32)) ⟨s.parts, s.larges ++ [(pg, n)], IntKind.u64.wrap (s.obj + size), IntKind.u64.wrap (s.pad + (-32) % align)⟩ (pg * 4096 + 32 + (-32) % align) 0
  | part (n pg : Int) : ¬ badA size align → fitI (topAt s) (topEnd s) size align = none → chunkI size align = (n, false, true) → (getC C n).2 = (pg, 0) →
      AR P C m s o size align (getC C n).1 (zzM (pushM P m 0 o (lastL 0 (s.parts.map runP)) pg n) (pg * 4096 + 32) (n * 4096 - 32)) ⟨s.parts ++ [(pg, n, pg * 4096 + 32 + (-32) % align + size, (pg + n) * 4096)], s.larges, IntKind.u64.wrap (s.obj + size), IntKind.u64.wrap (s.pad + (-32) % align)⟩ (pg * 4096 + 32 + (-32) % align) 0
theorem setLast_app (l : List Part) (x : Part) (a : Int) : setLast (l ++ [x]) a = l ++ [(x.1, x.2.1, a, x.2.2.2)] := by
  unfold setLast
  rw [lastP_append]
  simp
theorem rnd_chunk {size align n : Int} {big : Bool} (h0 : 0 ≤ size) (h2 : 0 ≤ align) (hc : chunkI size align = (n, big, true)) : rnd n = n ∧ ¬ bad n 0 ∧ ¬ bad n 1 ∧ 1 ≤ n ∧ n ≤ 1048576 := by
  obtain ⟨c1, c2, c3⟩ := chunk_n h0 h2 hc
  refine ⟨?_, by unfold bad; omega, by unfold bad; omega, c1, c3⟩
  unfold rnd
  by_cases h : 0 ≤ cclass n
  · rw [c2 h]; omega
  · have : cpages (cclass n) = 0 := by unfold cpages; rw [if_neg (by omega)]
    omega
theorem AR.shadow {P : Int} {B : Nat} {o : Int} {C C' : Co} {m m' : Mm} {s s' : Sh} {oth : List (Int × Hd)} {size align at_ e : Int} (hR : RInv P B o C m.f s oth) (ho : 0 ≤ o ∧ o < 18446744073709551616) (h0 : 0 ≤ size) (h2 : 0 ≤ align) (h3 : align ≤ 18446744073709551615) (h : AR P C m s o size align C' m' s' at_ e) : allocS C s size align = ((C', s'), e) := by
  have hP := hR.P1.2
  unfold allocS madeS
  cases h with
  | bad hb => rw [if_pos hb]
  | fit q hb hf => rw [if_neg hb, hf]; rfl
  | huge hb hf hc => rw [if_neg hb, hf]; simp only [Option.map_none]; rw [if_pos hc]
  | full n big hb hf hc hz =>
    rw [if_neg hb, hf]; simp only [Option.map_none]; rw [hc, if_neg (by simp)]
    unfold growS
    obtain ⟨g1, g2, -⟩ := get_full hR.K.ci.ok (chunk_n h0 h2 hc).1 hz
    rw [if_neg hz, g1, g2]
  | big n pg hb hf hc hz =>
    have hr : RunOk P (pg, n) := by
      obtain ⟨r1, r2, r3, r4, r5⟩ := rnd_chunk h0 h2 hc
      have := get_hr hR.K n 1 o ho r3 (by rw [r1, hz])
      rw [r1, hz, hR.hP] at this
      exact this
    obtain ⟨f1, f2⟩ := chunk_fit h0 h2 h3 hb hc hP hr
    rw [if_neg hb, hf]; simp only [Option.map_none]; rw [hc, if_neg (by simp)]
    unfold growS
    rw [hz]
    simp only [if_true]
    rw [f1]
    rfl
  | part n pg hb hf hc hz =>
    have hr : RunOk P (pg, n) := by
      obtain ⟨r1, r2, r3, r4, r5⟩ := rnd_chunk h0 h2 hc
      have := get_hr hR.K n 0 o ho r2 (by rw [r1, hz])
      rw [r1, hz, hR.hP] at this
      exact this
    obtain ⟨f1, f2⟩ := chunk_fit h0 h2 h3 hb hc hP hr
    rw [if_neg hb, hf]; simp only [Option.map_none]; rw [hc, if_neg (by simp)]
    unfold growS
    rw [hz]
    simp only [if_true]
    rw [if_neg (by simp)]
    have htA : topAt (partS s (pg, n) (ofI pg n)) = (ofI pg n).1 := by unfold topAt partS; rw [lastP_append]
    have htE : topEnd (partS s (pg, n) (ofI pg n)) = (ofI pg n).2 := by unfold topEnd partS; rw [lastP_append]
    unfold madeS
    rw [htA, htE, f1]
    simp only [Option.map_some, Option.getD_some]
    unfold setTop partS
    simp only
    rw [setLast_app]
    simp only
    rw [ofI_run hP hr]
theorem AR.ex (P : Int) (C : Co) (m : Mm) (s : Sh) (o size align : Int) : ∃ C' m' s' at_ e, AR P C m s o size align C' m' s' at_ e := by
  by_cases hb : badA size align
  · exact ⟨_, _, _, _, _, .bad hb⟩
  cases hf : fitI (topAt s) (topEnd s) size align with
  | some q => exact ⟨_, _, _, _, _, .fit q hb hf⟩
  | none =>
    obtain ⟨n, big, ok, hc⟩ : ∃ n big ok, chunkI size align = (n, big, ok) := ⟨_, _, _, rfl⟩
    cases ok with
    | false => exact ⟨_, _, _, _, _, .huge hb hf (by rw [hc])⟩
    | true =>
      by_cases hz : (getC C n).2.2 = 0
      · cases big with
        | true => exact ⟨_, _, _, _, _, .big n (getC C n).2.1 hb hf hc (by rw [← hz])⟩
        | false => exact ⟨_, _, _, _, _, .part n (getC C n).2.1 hb hf hc (by rw [← hz])⟩
      · exact ⟨_, _, _, _, _, .full n big hb hf hc hz⟩
theorem zz_mem {m : Mm} {pg n : Int} (h : 1 ≤ n) : ∀ a, ¬ (pg * 4096 + 32 ≤ a ∧ a < (pg + n) * 4096) → (zzM m (pg * 4096 + 32) (n * 4096 - 32)).f a = m.f a := fun a ha => by
  show (if _ then _ else _) = _
  rw [if_neg (by omega)]
theorem AR.inv {P : Int} {B : Nat} {o : Int} {C C' : Co} {m m' : Mm} {s s' : Sh} {oth : List (Int × Hd)} {size align at_ e : Int} (hR : RInv P B o C m.f s oth) (ho : 0 ≤ o ∧ o < 18446744073709551616) (h0 : 0 ≤ size) (h2 : 0 ≤ align) (h3 : align ≤ 18446744073709551615) (h : AR P C m s o size align C' m' s' at_ e) :
    RInv P (B + 1) o C' m'.f s' oth := by
  have hsh := h.shadow hR ho h0 h2 h3
  have hP := hR.P1.2
  have hd : ∀ x, cC x C + cS x s ≤ 1 := fun x => by
    have a1 := hR.K.part x
    have a2 := part_le1 (x := x) (P := C.P)
    rw [gr_app, cnt_append, gotR_cnt] at a1
    have a3 := cnt_nn x (gr oth)
    omega
  have hai := alloc_inv (C := C) (B := B) (s := s) (size := size) (align := align) hR.K.ci (by rw [hR.hP]; exact hR.S) hd h0 h2
  rw [hsh] at hai
  obtain ⟨-, i2, i3, -, -⟩ := hai
  simp only at i2 i3
  rw [hR.hP] at i2 i3
  cases h with
  | bad hb => exact hR.up
  | fit q hb hf =>
    obtain ⟨g1, g2, g3, g4, g5⟩ := good_al h2 h3 hb
    refine ⟨by rw [gotR_setTop]; exact hR.K, i2, i3, fun p hp => ?_⟩
    have hp : p ∈ setLast s.parts q.2.1 := hp
    unfold setLast at hp
    rcases List.mem_or_eq_of_mem_set hp with hp | rfl
    · exact hR.po p hp
    · have hne : s.parts ≠ [] := by rintro h0; rw [h0] at hp; simp at hp
      obtain ⟨c1, c2, c3⟩ := hR.cur hne
      have htb := top_bd hR.S.ok
      obtain ⟨f1, f2, f3, f4, f5, f6, f7⟩ := fit_some htb.1 g3 h0 hf
      unfold PtOk at c3 ⊢
      unfold topAt topEnd at *
      simp only
      omega
  | huge hb hf hc => exact hR.up
  | full n big hb hf hc hz => exact ⟨ktrim hR.K, i2, i3, hR.po⟩
  | big n pg hb hf hc hz =>
    obtain ⟨r1, r2, r3, r4, r5⟩ := rnd_chunk h0 h2 hc
    have hz0 : (getC C (rnd n)).2.2 = 0 := by rw [r1, hz]
    have hK1 : KInv C m.f (plH 1 o 0 s.larges ++ (plH 0 o 0 (s.parts.map runP) ++ oth)) := by
      refine hR.K.perm ?_
      unfold gotR
      exact ((List.perm_append_comm).append_right oth).trans (List.Perm.of_eq (List.append_assoc _ _ _))
    obtain ⟨k1, k2⟩ := ppush_inv hK1 hR.hP ho r3 hz0
    rw [r1, hz] at k1
    rw [r1] at k2
    simp only at k1
    have k3 := k1.mem (p := pg) (hd := ⟨n, 1, o, lastL 0 s.larges⟩) (by rw [plH_snoc]; simp) (zz_mem (pg := pg) (n := n) r4)
    refine ⟨k3.perm ?_, i2, i3, hR.po⟩
    unfold gotR
    simp only
    rw [← List.append_assoc]
    exact (List.perm_append_comm).append_right oth
  | part n pg hb hf hc hz =>
    obtain ⟨r1, r2, r3, r4, r5⟩ := rnd_chunk h0 h2 hc
    have hz0 : (getC C (rnd n)).2.2 = 0 := by rw [r1, hz]
    have hK1 : KInv C m.f (plH 0 o 0 (s.parts.map runP) ++ (plH 1 o 0 s.larges ++ oth)) := by
      have := hR.K
      unfold gotR at this
      rw [List.append_assoc] at this
      exact this
    obtain ⟨k1, k2⟩ := ppush_inv hK1 hR.hP ho r2 hz0
    rw [r1, hz] at k1
    rw [r1] at k2
    simp only at k1
    have k3 := k1.mem (p := pg) (hd := ⟨n, 0, o, lastL 0 (s.parts.map runP)⟩) (by rw [plH_snoc]; simp) (zz_mem (pg := pg) (n := n) r4)
    have hr : RunOk P (pg, n) := by
      have := get_hr hR.K n 0 o ho r2 hz0
      rw [r1, hz, hR.hP] at this
      exact this
    obtain ⟨f1, f2, f3, f4⟩ := chunk_fit h0 h2 h3 hb hc hP hr
    refine ⟨?_, i2, i3, fun p hp => ?_⟩
    · unfold gotR
      simp only [List.map_append, List.map_cons, List.map_nil, runP]
      rw [List.append_assoc]
      exact k3
    · rcases List.mem_append.1 hp with hp | hp
      · exact hR.po p hp
      · simp at hp
        subst hp
        unfold PtOk
        rw [if_neg (by simp)] at f4
        refine ⟨rfl, ?_, ?_, f4.1⟩
        · show pg * 4096 + 32 ≤ pg * 4096 + 32 + (-32) % align + size
          omega
        · show pg * 4096 + 32 + (-32) % align + size ≤ (pg + n) * 4096
          omega
end Go.Proofs.YtamecmklcnohjaaGreat.Sep
namespace Go.Proofs.YtamecmklcnohjaaGreat.Sep
open Go.RowKit
set_option linter.unusedSimpArgs false
set_option linter.unusedVariables false
def rewM (P : Int) (m : Mm) (s : Sh) (mc ml at_ : Int) : Mm :=
  if at_ < topAt (cutS s mc ml) then zzM (cutM P (cutM P m (s.larges.drop ml.toNat)) ((s.parts.map runP).drop mc.toNat)) at_ (topAt (cutS s mc ml) - at_)
  else cutM P (cutM P m (s.larges.drop ml.toNat)) ((s.parts.map runP).drop mc.toNat)
theorem fits_bds {s : Sh} {mc ml at_ : Int} (h : fitsS s mc ml at_ = true) : 0 ≤ mc ∧ mc ≤ s.parts.length ∧ 0 ≤ ml ∧ ml ≤ s.larges.length ∧ (mc = 0 → at_ = 0) ∧
    (mc ≠ 0 → (cutS s mc ml).parts ≠ [] ∧ lastP (cutS s mc ml).parts = s.parts.getD (mc.toNat - 1) (0, 0, 0, 0) ∧ (ofI (lastP (cutS s mc ml).parts).1 (lastP (cutS s mc ml).parts).2.1).1 ≤ at_ ∧ at_ ≤ topAt (cutS s mc ml)) := by
  unfold fitsS at h
  split at h
  · cases h
  · rename_i hb
    split at h
    · rename_i h0
      refine ⟨by omega, by omega, by omega, by omega, fun _ => by simpa using h, fun hn => absurd h0 hn⟩
    · rename_i h0
      simp only [Bool.and_eq_true, decide_eq_true_eq] at h
      have hlen : (cutS s mc ml).parts.length = mc.toNat := by simp [cutS]; omega
      have hlast : lastP (cutS s mc ml).parts = s.parts.getD (mc.toNat - 1) (0, 0, 0, 0) := by
        unfold lastP
        rw [hlen]
        simp only [cutS, List.getD]
        rw [List.getElem?_take_of_lt (by omega)]
      refine ⟨by omega, by omega, by omega, by omega, fun h1 => absurd h1 h0, fun _ => ⟨?_, hlast, ?_, ?_⟩⟩
      · intro hn; rw [hn] at hlen; simp at hlen; omega
      · rw [hlast]; exact h.1
      · unfold topAt; rw [hlast]; exact h.2
theorem cut_runs (s : Sh) (mc ml : Int) : (cutS s mc ml).parts.map runP = (s.parts.map runP).take mc.toNat := by simp [cutS, List.map_take]
theorem rew_inv {P : Int} {B : Nat} {o : Int} {C : Co} {m : Mm} {s : Sh} {oth : List (Int × Hd)} {mc ml at_ ob pd : Int} (hR : RInv P B o C m.f s oth) (hf : fitsS s mc ml at_ = true) (h0 : 0 ≤ at_) (ho : 0 ≤ ob ∧ ob ≤ 18446744073709551615) (hp : 0 ≤ pd ∧ pd ≤ 18446744073709551615) :
    RInv P B o (putsC C s mc ml) (rewM P m s mc ml at_).f (setTop (cutS s mc ml) at_ ob pd) oth := by
  obtain ⟨f1, f2, f3, f4, f5, f6⟩ := fits_bds hf
  have hP := hR.P1
  obtain ⟨hl1, hl2⟩ := hR.len
  have hK1 : KInv C m.f (plH 1 o 0 s.larges ++ (plH 0 o 0 (s.parts.map runP) ++ oth)) := by
    refine hR.K.perm ?_
    unfold gotR
    exact ((List.perm_append_comm).append_right oth).trans (List.Perm.of_eq (List.append_assoc _ _ _))
  obtain ⟨k1, k2⟩ := pcut_inv hK1 hR.hP hl2 ml.toNat
  have hK2 : KInv (cutC C (s.larges.drop ml.toNat)) (cutM P m (s.larges.drop ml.toNat)).f (plH 0 o 0 (s.parts.map runP) ++ (plH 1 o 0 (s.larges.take ml.toNat) ++ oth)) := by
    refine k1.perm ?_
    refine (List.Perm.of_eq (List.append_assoc _ _ _).symm).trans (((List.perm_append_comm).append_right oth).trans (List.Perm.of_eq (List.append_assoc _ _ _)))
  obtain ⟨k3, k4⟩ := pcut_inv hK2 k2 (by simp; exact hl1) mc.toNat
  have hg : plH 0 o 0 ((s.parts.map runP).take mc.toNat) ++ (plH 1 o 0 (s.larges.take ml.toNat) ++ oth) = gotR o (cutS s mc ml) ++ oth := by
    unfold gotR; rw [cut_runs, List.append_assoc]; rfl
  rw [hg] at k3
  have hC : putsC C s mc ml = cutC (cutC C (s.larges.drop ml.toNat)) ((s.parts.map runP).drop mc.toNat) := rfl
  rw [← hC] at k3 k4
  have hsub : ∀ p ∈ (cutS s mc ml).parts, p ∈ s.parts := fun p hp => List.mem_of_mem_take hp
  have hsubl : ∀ r ∈ (cutS s mc ml).larges, r ∈ s.larges := fun p hp => List.mem_of_mem_take hp
  have hcut : SInv P B (cutS s mc ml) := by
    refine ⟨⟨fun p hp => hR.S.ok.parts p (hsub p hp), fun r hr => hR.S.ok.larges r (hsubl r hr), hR.S.ok.obj, hR.S.ok.pad⟩, ⟨fun r hr => ?_, fun r hr => hR.S.pi.larges r (hsubl r hr)⟩, ?_, ?_⟩
    · obtain ⟨p, hp, rfl⟩ := List.mem_map.1 hr
      exact hR.S.pi.parts _ (List.mem_map.2 ⟨p, hsub p hp, rfl⟩)
    · have := hR.S.lp; simp [cutS]; omega
    · have := hR.S.ll; simp [cutS]; omega
  have htb := top_bd hcut.ok
  have hat : 0 ≤ at_ ∧ at_ ≤ 18446744073709551615 := by
    by_cases h : mc = 0
    · have := f5 h; omega
    · have := (f6 h).2.2.2; omega
  refine ⟨?_, k4, (setTop_inv hcut hat ho hp).1, fun p hp => ?_⟩
  · rw [gotR_setTop]
    unfold rewM
    split
    · rename_i hlt
      have hmc : mc ≠ 0 := by
        intro h
        have h1 := f5 h
        have : topAt (cutS s mc ml) = 0 := by unfold topAt cutS; rw [h]; rfl
        omega
      obtain ⟨e1, e2, e3, e4⟩ := f6 hmc
      have hm1 := last_mem e1
      have hrun := hcut.pi.parts _ (List.mem_map.2 ⟨_, hm1, rfl⟩)
      have hpo := hR.po _ (hsub _ hm1)
      have hmem : ∃ nx, (((lastP (cutS s mc ml).parts).1, (⟨(lastP (cutS s mc ml).parts).2.1, 0, o, nx⟩ : Hd))) ∈ gotR o (cutS s mc ml) ++ oth := by
        have : (runP (lastP (cutS s mc ml).parts)) ∈ gr (plH 0 o 0 ((cutS s mc ml).parts.map runP)) := by rw [plH_gr]; exact List.mem_map.2 ⟨_, hm1, rfl⟩
        obtain ⟨⟨q1, q2⟩, hq, he⟩ := List.mem_map.1 this
        have hq2 : ∀ (l : List (Int × Int)) (nx : Int), (q1, q2) ∈ plH 0 o nx l → q2.kind = 0 ∧ q2.owner = o := by
          intro l
          induction l with
          | nil => intro nx h; cases h
          | cons r l ih =>
            intro nx h
            rcases List.mem_cons.1 h with h | h
            · cases h; exact ⟨rfl, rfl⟩
            · exact ih _ h
        obtain ⟨h1, h2⟩ := hq2 _ _ hq
        obtain ⟨pp, kk, oo, nn⟩ := q2
        simp only at h1 h2
        subst h1 h2
        refine ⟨nn, ?_⟩
        unfold runP at he
        injection he with e5 e6
        subst e5
        simp only at e6
        rw [← e6]
        unfold gotR
        simp [hq]
      obtain ⟨nx, hmem⟩ := hmem
      refine k3.mem hmem fun a ha => ?_
      show (if _ then _ else _) = _
      rw [ofI_run hP.2 hrun] at e3
      unfold PtOk at hpo
      unfold topAt at hlt ⊢
      simp only at e3 ha ⊢
      rw [if_neg (by omega)]
    · exact k3
  · have hp : p ∈ setLast (cutS s mc ml).parts at_ := hp
    unfold setLast at hp
    rcases List.mem_or_eq_of_mem_set hp with hp | rfl
    · exact hR.po p (hsub p hp)
    · have hne : (cutS s mc ml).parts ≠ [] := by rintro h0; rw [h0] at hp; simp at hp
      have hmc : mc ≠ 0 := by
        intro h
        apply hne
        unfold cutS; rw [h]; rfl
      obtain ⟨e1, e2, e3, e4⟩ := f6 hmc
      have hm1 := last_mem e1
      have hrun := hcut.pi.parts _ (List.mem_map.2 ⟨_, hm1, rfl⟩)
      have hpo := hR.po _ (hsub _ hm1)
      rw [ofI_run hP.2 hrun] at e3
      unfold PtOk at hpo ⊢
      unfold topAt at e4
      simp only at e3 ⊢
      omega
theorem rew_shadow {C : Co} {s : Sh} {mc ml at_ ob pd : Int} (hf : fitsS s mc ml at_ = true) : rewS C s mc ml at_ ob pd = some (putsC C s mc ml, setTop (cutS s mc ml) at_ ob pd) := by
  unfold rewS
  rw [if_pos hf]
  split
  · rename_i h
    simp only [List.cons.injEq, and_true] at h
    obtain ⟨rfl, rfl, rfl, rfl, rfl⟩ := h
    rfl
  · rfl
end Go.Proofs.YtamecmklcnohjaaGreat.Sep
