import Derived.Test.YtmndddegnfbaaaaBn9
import Derived.Test.YtmndddegnfbaaaaBn4
import Derived.Deep.Grids
/- What the laws share: a separation logic over the model, and what the program's functions do, by it. Part 10 of 10: PileP PileA PileB PileC PileD Same05 AwakeP LineP RowV High. -/
namespace Go.Proofs.Ytmndddegnfbaaaa.Sep
open Go.RowKit
set_option linter.unusedSimpArgs false
set_option linter.unusedVariables false
/-! piles: what their chunks' headers tell -/
/-- A pile's chunks with their headers: each tells of the one below. -/
def plH (k o : Int) : Int → List (Int × Int) → List (Int × Hd)
  | _, [] => []
  | nx, (p, n) :: l => (p, ⟨n, k, o, nx⟩) :: plH k o (p + 1) l
def lastL : Int → List (Int × Int) → Int
  | nx, [] => nx
  | _, (p, _) :: l => lastL (p + 1) l
theorem plH_snoc (k o : Int) (p n : Int) : ∀ (l : List (Int × Int)) (nx : Int), plH k o nx (l ++ [(p, n)]) = plH k o nx l ++ [(p, ⟨n, k, o, lastL nx l⟩)]
  | [], nx => rfl
  | (q, m) :: l, nx => by
    show (q, _) :: plH k o (q + 1) (l ++ [(p, n)]) = _
    rw [plH_snoc k o p n l]; rfl
theorem lastL_snoc (p n : Int) : ∀ (l : List (Int × Int)) (nx : Int), lastL nx (l ++ [(p, n)]) = p + 1
  | [], nx => rfl
  | (q, m) :: l, nx => lastL_snoc p n l (q + 1)
theorem plH_gr (k o : Int) : ∀ (l : List (Int × Int)) (nx : Int), gr (plH k o nx l) = l
  | [], nx => rfl
  | (q, m) :: l, nx => by
    show (q, m) :: gr (plH k o (q + 1) l) = _
    rw [plH_gr k o l]
theorem plH_len (k o : Int) (l : List (Int × Int)) (nx : Int) : (plH k o nx l).length = l.length := by
  have := congrArg List.length (plH_gr k o l nx)
  simpa [gr] using this
theorem cnt_perm {x : Int} {l l' : List (Int × Int)} (h : l.Perm l') : cnt x l = cnt x l' := by
  induction h with
  | nil => rfl
  | cons a _ ih => simp only [cnt, ih]
  | swap a b l => simp only [cnt]; omega
  | trans _ _ h1 h2 => exact h1.trans h2
theorem tot_perm {l l' : List (Int × Int)} (h : l.Perm l') : totI l = totI l' := by
  induction h with
  | nil => rfl
  | cons a _ ih => rw [tot_cons, tot_cons, ih]
  | swap a b l => simp only [tot_cons]; omega
  | trans _ _ h1 h2 => exact h1.trans h2
theorem KInv.perm {C : Co} {m : Int → Int} {g g' : List (Int × Hd)} (h : KInv C m g) (hp : g.Perm g') : KInv C m g' := by
  have hg : (gr g).Perm (gr g') := hp.map _
  refine ⟨h.ci, fun q hq => h.run q (hp.symm.subset hq), fun x => ?_, ?_, fun q hq => h.hdr q (hp.symm.subset hq)⟩
  · rw [← cnt_perm hg]; exact h.part x
  · rw [← tot_perm hg]; exact h.tot
/-- What becomes of a header's link. -/
def lkM (P : Int) (m : Mm) (page next : Int) : Mm := stM (hrM P m page) (page * 4096 + 24) (leB 8 next)
theorem leB_len8 (n : Int) : (leB 8 n).length = 8 := leB_len 8 n
theorem hdB_split (h : Hd) : hdB h = (magicB ++ ((leB 4 h.pages ++ leB 4 h.kind) ++ leB 8 h.owner)) ++ leB 8 h.next := by unfold hdB; simp [List.append_assoc]
theorem hdB_front (h : Hd) : (magicB ++ ((leB 4 h.pages ++ leB 4 h.kind) ++ leB 8 h.owner)).length = 24 := by simp [leB_len, magicB]
/-- A header is linked: the others stay. -/
theorem klink {C : Co} {m : Int → Int} {l1 l2 : List (Int × Hd)} {p next : Int} {hd : Hd} (h : KInv C m (l1 ++ (p, hd) :: l2)) (h0 : 0 ≤ next ∧ next < 18446744073709551616) :
    KInv C (wrM m (p * 4096 + 24) (leB 8 next)) (l1 ++ (p, { hd with next := next }) :: l2) := by
  have hg : gr (l1 ++ (p, { hd with next := next }) :: l2) = gr (l1 ++ (p, hd) :: l2) := by simp [gr]
  have hrp : RunOk C.P (p, hd.pages) := h.run (p, hd) (by simp)
  have hdis : ∀ q ∈ l1 ++ l2, q.1 ≠ p := by
    intro q hq hqp
    have h1 := h.part p
    have h2 := part_le1 (x := p) (P := C.P)
    have h3 : cnt p (gr (l1 ++ (p, hd) :: l2)) = cnt p (gr (l1 ++ l2)) + ind p (p, hd.pages) := by
      rw [gr_app, gr_app, cnt_append, cnt_append]
      show _ + (ind p (p, hd.pages) + cnt p (gr l2)) = _
      omega
    have h4 : ind p (p, hd.pages) = 1 := ind_self hrp.2.1
    have h5 := cnt_mem (x := p) (r := (q.1, q.2.pages)) (l := gr (l1 ++ l2)) (List.mem_map.2 ⟨q, hq, rfl⟩)
    have hrq : RunOk C.P (q.1, q.2.pages) := h.run q (by rcases List.mem_append.1 hq with hq | hq <;> simp [hq])
    have h6 : ind q.1 (q.1, q.2.pages) = 1 := ind_self hrq.2.1
    rw [hqp] at h5 h6
    have h7 := cC_nn p C
    omega
  refine ⟨h.ci, fun q hq => ?_, fun x => by rw [hg]; exact h.part x, by rw [hg]; exact h.tot, fun q hq => ?_⟩
  · rcases List.mem_append.1 hq with hq | hq
    · exact h.run q (by simp [hq])
    · rcases List.mem_cons.1 hq with rfl | hq
      · exact hrp
      · exact h.run q (by simp [hq])
  · have hother : ∀ q ∈ l1 ++ l2, rdM (wrM m (p * 4096 + 24) (leB 8 next)) (q.1 * 4096) 32 = hdB q.2 ∧ HdGood q.2 := fun q hq => by
      have h1 := h.hdr q (by rcases List.mem_append.1 hq with hq | hq <;> simp [hq])
      have h2 := hdis q hq
      rw [rd_wr_ne (by rw [leB_len]; omega)]
      exact h1
    rcases List.mem_append.1 hq with hq | hq
    · exact hother q (by simp [hq])
    · rcases List.mem_cons.1 hq with rfl | hq
      · obtain ⟨h1, h2⟩ := h.hdr (p, hd) (by simp)
        simp only at h1 h2
        refine ⟨?_, h2.1, h2.2.1, h2.2.2.1, h0.1, h0.2⟩
        show rdM (wrM m (p * 4096 + 24) (leB 8 next)) (p * 4096) 32 = _
        have e1 : rdM m (p * 4096) 24 = magicB ++ ((leB 4 hd.pages ++ leB 4 hd.kind) ++ leB 8 hd.owner) := by
          have h3 := h1
          rw [show (32 : Nat) = 24 + 8 from rfl, rd_app, hdB_split] at h3
          exact (List.append_inj h3 (by rw [rdM_len, hdB_front])).1
        rw [show (32 : Nat) = 24 + 8 from rfl, rd_app, rd_wr_ne (by rw [leB_len]; omega), e1]
        have e2 := rd_wr m (p * 4096 + 24) (leB 8 next)
        rw [leB_len] at e2
        rw [show p * 4096 + ((24 : Nat) : Int) = p * 4096 + 24 from rfl, e2]
        rw [hdB_split]
      · exact hother q (by simp [hq])
end Go.Proofs.Ytmndddegnfbaaaa.Sep
namespace Go.Proofs.Ytmndddegnfbaaaa.Sep
open Go.RowKit
set_option linter.unusedSimpArgs false
set_option linter.unusedVariables false
/-! numbers laid in a space; headers that are linked; piles: their block -/
def Pl (p s : Nat) (k o : Int) (rs : List (Int × Int)) : HP := fun H => ∃ x : Option Addr × Nat, SL [pt p (.cells [.pointer (some ⟨s, 0, none⟩), .int .i64 k, .int .u64 o, .slice x.1 rs.length x.2].toArray 98 (0, 0)), Sl eRun x.1 x.2 rs] H
theorem Pl.open {p s : Nat} {k o : Int} {rs : List (Int × Int)} : ∀ H, Pl p s k o rs H → ∃ x : Option Addr × Nat, True ∧ SL [pt p (.cells [.pointer (some ⟨s, 0, none⟩), .int .i64 k, .int .u64 o, .slice x.1 rs.length x.2].toArray 98 (0, 0)), Sl eRun x.1 x.2 rs] H := fun H ⟨x, h⟩ => ⟨x, trivial, h⟩
theorem Pl.fold {p s c : Nat} {k o : Int} {rs : List (Int × Int)} {a : Option Addr} : ∀ H, SL [pt p (.cells [.pointer (some ⟨s, 0, none⟩), .int .i64 k, .int .u64 o, .slice a rs.length c].toArray 98 (0, 0)), Sl eRun a c rs] H → Pl p s k o rs H := fun H h => ⟨(a, c), h⟩
theorem Pl.foldN {p s c n : Nat} {k o : Int} {rs : List (Int × Int)} {a : Option Addr} (hn : n = rs.length) : ∀ H, SL [pt p (.cells [.pointer (some ⟨s, 0, none⟩), .int .i64 k, .int .u64 o, .slice a n c].toArray 98 (0, 0)), Sl eRun a c rs] H → Pl p s k o rs H := by subst hn; exact Pl.fold
set_option maxHeartbeats 8000000
attribute [local irreducible] X XE XO XD XDi XDa PV RV DV pt base Spec Sl Mp Keeps Pg Kc Pgs Spc Ck XL XLi Pl
theorem wfits0_spec : Spec Try.prog 110 [.int .u64 0, .int .i64 8] [] (fun v L => v = .bool true ∧ L = []) := by
  refine Spec.intro (IsEnt.out) Try.func110 rfl Try.ntmps110 (by simp) (fun w0 F => ?_)
  simp only [envOf, List.zipIdx, List.map, List.cons_append, List.nil_append, Nat.zero_add, Nat.reduceAdd]
  repeat (first | refine Zq ?_ | refine Zs ?_ | refine ZT ?_ | refine ZF ?_ | refine Zc ?_ | refine XO_gU (hk := ?_))
  refine XO_call (wide_spec 8 (by decide)) (hk := ?_)
  rintro _ _ ⟨rfl, rfl⟩
  repeat (first | refine Zq ?_ | refine Zs ?_ | refine ZT ?_ | refine ZF ?_ | refine Zc ?_ | refine XO_gU (hk := ?_))
  refine XO_pv pv_shrN (hk := ?_)
  repeat (first | refine Zq ?_ | refine Zs ?_ | refine ZT ?_ | refine ZF ?_ | refine Zc ?_ | refine XO_gU (hk := ?_))
  refine XO_pv pv_shrN (hk := ?_)
  repeat (first | refine Zq ?_ | refine Zs ?_ | refine ZT ?_ | refine ZF ?_ | refine Zc ?_ | refine XO_gU (hk := ?_))
  refine XE_ret (.inl rfl) (tells_tmps rfl rfl) ⟨_, ⟨?_, rfl⟩, by ((try simp only [List.cons_append, List.nil_append]); repeat (first | exact ent_refl | refine ent_take (by repeat (first | exact Find.here | apply Find.there)) ?_ | refine ent_drop ?_))⟩
  rfl
theorem cright_spec (a : Int) (h0 : 0 ≤ a) (h8 : a % 8 = 0) : Spec Try.prog 101 [.int .u64 a, .int .i64 8] [] (fun v L => v = .bool true ∧ L = []) := by
  refine Spec.intro (IsEnt.out) Try.func101 rfl Try.ntmps101 (by simp) (fun w0 F => ?_)
  simp only [envOf, List.zipIdx, List.map, List.cons_append, List.nil_append, Nat.zero_add, Nat.reduceAdd]
  repeat (first | refine Zq ?_ | refine Zs ?_ | refine ZT ?_ | refine ZF ?_ | refine Zc ?_ | refine XO_gU (hk := ?_))
  refine XO_call wfits0_spec (hk := ?_)
  rintro _ _ ⟨rfl, rfl⟩
  repeat (first | refine Zq ?_ | refine Zs ?_ | refine ZT ?_ | refine ZF ?_ | refine Zc ?_ | refine XO_gU (hk := ?_))
  refine XE_ret (.inl rfl) (tells_tmps rfl rfl) ⟨_, ⟨?_, rfl⟩, by ((try simp only [List.cons_append, List.nil_append]); repeat (first | exact ent_refl | refine ent_take (by repeat (first | exact Find.here | apply Find.there)) ?_ | refine ent_drop ?_))⟩
  exact congrArg Value.bool (by simp [h8])
theorem cput_spec (sb : Nat) (P : Int) (m : Mm) (a n : Int) (hP0 : 0 ≤ P) (hP : P ≤ 1048576) (h0 : 0 ≤ a) (h8 : a % 8 = 0) (h1 : a + 8 ≤ P * 4096) :
    Spec Try.prog 72 [.pointer (some ⟨sb, 0, none⟩), .int .u64 a, .int .i64 8, .int .u64 n] [Spc sb P m] (fun v L => v = .int .i64 0 ∧ L = [Spc sb P (stM m a (leB 8 n))]) := by
  refine Spec.intro (IsEnt.out) Try.func72 rfl Try.ntmps72 (by simp) (fun w0 F => ?_)
  simp only [envOf, List.zipIdx, List.map, List.cons_append, List.nil_append, Nat.zero_add, Nat.reduceAdd]
  repeat (first | refine Zq ?_ | refine Zs ?_ | refine ZT ?_ | refine ZF ?_ | refine Zc ?_ | refine XO_gU (hk := ?_))
  refine XO_call (cright_spec a h0 h8) (hk := ?_)
  rintro _ _ ⟨rfl, rfl⟩
  repeat (first | refine Zq ?_ | refine Zs ?_ | refine ZT ?_ | refine ZF ?_ | refine Zc ?_ | refine XO_gU (hk := ?_))
  refine X_cond rfl (fun h => by cases h) (fun _ => ?_)
  repeat (first | refine Zq ?_ | refine Zs ?_ | refine ZT ?_ | refine ZF ?_ | refine Zc ?_ | refine XO_gU (hk := ?_))
  refine XO_lit (E' := eI .u64) [n] (hk := ?_)
  intro lb
  repeat (first | refine Zq ?_ | refine Zs ?_ | refine ZT ?_ | refine ZF ?_ | refine Zc ?_ | refine XO_gU (hk := ?_))
  refine XO_call (wbytes_spec (Sl (eI .u64) (some ⟨lb, 0, none⟩) [n].length [n]) (some ⟨lb, 0, none⟩) [n].length [n] 8 (by decide) (by simp) Sl.view) (hk := ?_)
  rintro _ _ ⟨b, rfl, rfl⟩
  have e : bsOf (8 : Int).toNat [n] = leB 8 n := by show leB 8 n ++ [] = _; rw [List.append_nil]
  rw [e]
  repeat (first | refine Zq ?_ | refine Zs ?_ | refine ZT ?_ | refine ZF ?_ | refine Zc ?_ | refine XO_gU (hk := ?_))
  have hs := Store_spec (Sl (eI .u8) (some ⟨b, 0, none⟩) (leB 8 n).length (leB 8 n)) sb (leB 8 n).length (some ⟨b, 0, none⟩) P m a (leB 8 n) Sl.view (leB_byt 8 n) (Nat.le_refl _) (by rw [leB_len]; decide) hP0 hP h0 (by omega)
  unfold storeV at hs
  rw [if_pos (by unfold fitsI; rw [leB_len, if_pos (by omega), if_neg (by omega)])] at hs
  refine XO_call hs (hk := ?_)
  rintro _ _ ⟨rfl, rfl⟩
  repeat (first | refine Zq ?_ | refine Zs ?_ | refine ZT ?_ | refine ZF ?_ | refine Zc ?_ | refine XO_gU (hk := ?_))
  refine XE_ret (.inl rfl) (tells_tmps rfl rfl) ⟨_, ⟨rfl, rfl⟩, by ((try simp only [List.cons_append, List.nil_append]); repeat (first | exact ent_refl | refine ent_take (by repeat (first | exact Find.here | apply Find.there)) ?_ | refine ent_drop ?_))⟩
theorem hlink_ok (sb : Nat) {C : Co} {m : Mm} {l1 l2 : List (Int × Hd)} {P p : Int} {hd : Hd} (next : Int) (hK : KInv C m.f (l1 ++ (p, hd) :: l2)) (hP : C.P = P) :
    Spec Try.prog 45 [.pointer (some ⟨sb, 0, none⟩), .int .i64 p, .int .u64 next] [Spc sb P m] (fun v L => v = .int .i64 0 ∧ L = [Spc sb P (lkM P m p next)]) := by
  refine Spec.intro (IsEnt.out) Try.func45 rfl Try.ntmps45 (by simp) (fun w0 F => ?_)
  have hr : RunOk C.P (p, hd.pages) := hK.run (p, hd) (by simp)
  have hP1 := hK.ci.ok.p1
  have hP2 := hK.ci.ok.p2
  rw [hP] at hr hP1 hP2
  unfold RunOk at hr
  simp only at hr
  simp only [envOf, List.zipIdx, List.map, List.cons_append, List.nil_append, Nat.zero_add, Nat.reduceAdd]
  repeat (first | refine Zq ?_ | refine Zs ?_ | refine ZT ?_ | refine ZF ?_ | refine Zc ?_ | refine XO_gU (hk := ?_))
  refine XO_call (hread_ok sb hK hP) (hk := ?_)
  rintro _ _ ⟨rfl, rfl⟩
  repeat (first | refine Zq ?_ | refine Zs ?_ | refine ZT ?_ | refine ZF ?_ | refine Zc ?_ | refine XO_gU (hk := ?_))
  refine XO_dv (dv_alloc (row := [.int .i64 0, .int .i64 0, .int .u64 0, .int .u64 0])) (hk := ?_)
  rintro _ _ ⟨hb, rfl, rfl⟩
  refine XO_dv0 (dv_storeW (vs := [.int .i64 hd.pages, .int .i64 hd.kind, .int .u64 hd.owner, .int .u64 hd.next])) (hk := ?_)
  rintro _ _ rfl
  repeat (first | refine Zq ?_ | refine Zs ?_ | refine ZT ?_ | refine ZF ?_ | refine Zc ?_ | refine XO_gU (hk := ?_))
  refine X_cond rfl (fun h => by cases h) (fun _ => ?_)
  repeat (first | refine Zq ?_ | refine Zs ?_ | refine ZT ?_ | refine ZF ?_ | refine Zc ?_ | refine XO_gU (hk := ?_))
  refine XO_call (hat_spec sb P (hrM P m p) p (by omega) hP2) (hk := ?_)
  rintro _ _ ⟨rfl, rfl⟩
  rw [show hatI P p = p * 4096 from by unfold hatI; rw [if_pos (by omega)]]
  repeat (first | refine Zq ?_ | refine Zs ?_ | refine ZT ?_ | refine ZF ?_ | refine Zc ?_ | refine XO_gU (hk := ?_))
  refine XO_call (cput_spec sb P (hrM P m p) (p * 4096 + 24) next (by omega) hP2 (by omega) (by omega) (by omega)) (hk := ?_)
  rintro _ _ ⟨rfl, rfl⟩
  repeat (first | refine Zq ?_ | refine Zs ?_ | refine ZT ?_ | refine ZF ?_ | refine Zc ?_ | refine XO_gU (hk := ?_))
  refine XE_ret (.inl rfl) (tells_tmps rfl rfl) ⟨_, ⟨rfl, rfl⟩, by ((try simp only [List.cons_append, List.nil_append]); repeat (first | exact ent_refl | refine ent_take (by repeat (first | exact Find.here | apply Find.there)) ?_ | refine ent_drop ?_))⟩
theorem plen_spec (p s : Nat) (k o : Int) (rs : List (Int × Int)) : Spec Try.prog 18 [.pointer (some ⟨p, 0, none⟩)] [Pl p s k o rs] (fun v L => v = .int .i64 (rs.length : Int) ∧ L = [Pl p s k o rs]) := by
  refine Spec.intro (IsEnt.out) Try.func18 rfl Try.ntmps18 (by simp) (fun w0 F => ?_)
  simp only [envOf, List.zipIdx, List.map, List.cons_append, List.nil_append, Nat.zero_add, Nat.reduceAdd]
  repeat (first | refine Zq ?_ | refine Zs ?_ | refine ZT ?_ | refine ZF ?_ | refine Zc ?_ | refine XO_gU (hk := ?_))
  refine X_cond rfl (fun h => by cases h) (fun _ => ?_)
  refine X_open .here Pl.open ?_
  rintro ⟨a, c⟩ -
  dsimp only [List.cons_append, List.nil_append]
  repeat (first | refine Zq ?_ | refine Zs ?_ | refine ZT ?_ | refine ZF ?_ | refine Zc ?_ | refine XO_gU (hk := ?_))
  refine XE_fold (by repeat (first | exact FindAll.nil | exact Find.here | apply Find.there | apply FindAll.cons)) Pl.fold ?_
  refine XE_ret (.inl rfl) (tells_tmps rfl rfl) ⟨_, ⟨rfl, rfl⟩, by ((try simp only [List.cons_append, List.nil_append]); repeat (first | exact ent_refl | refine ent_take (by repeat (first | exact Find.here | apply Find.there)) ?_ | refine ent_drop ?_))⟩
def topR : List (Int × Int) → (Int × Int) × Bool
  | [] => ((0, 0), false)
  | r :: l => ((r :: l).getD l.length (0, 0), true)
theorem topR_snoc (l : List (Int × Int)) (r : Int × Int) : topR (l ++ [r]) = (r, true) := by
  cases l with
  | nil => rfl
  | cons x l => show (((x :: (l ++ [r])).getD (l ++ [r]).length (0, 0)), true) = _; simp [List.getD]
theorem topR_lastL (rs : List (Int × Int)) : lastL 0 rs = if (topR rs).2 = true then (topR rs).1.1 + 1 else 0 := by
  rcases List.eq_nil_or_concat rs with rfl | ⟨l, r, rfl⟩
  · rfl
  · rw [List.concat_eq_append, topR_snoc, lastL_snoc]; rfl
theorem ptop_spec (p s : Nat) (k o : Int) (rs : List (Int × Int)) (hl : rs.length ≤ 4611686018427387904) : Spec Try.prog 21 [.pointer (some ⟨p, 0, none⟩)] [Pl p s k o rs] (fun v L => v = .tuple #[eRun.val (topR rs).1, .bool (topR rs).2] ∧ L = [Pl p s k o rs]) := by
  refine Spec.intro (IsEnt.out) Try.func21 rfl Try.ntmps21 (by simp) (fun w0 F => ?_)
  simp only [envOf, List.zipIdx, List.map, List.cons_append, List.nil_append, Nat.zero_add, Nat.reduceAdd]
  repeat (first | refine Zq ?_ | refine Zs ?_ | refine ZT ?_ | refine ZF ?_ | refine Zc ?_ | refine XO_gU (hk := ?_))
  refine XO_dv (dv_alloc (row := [.int .i64 0, .int .i64 0])) (hk := ?_)
  rintro _ _ ⟨rb, rfl, rfl⟩
  repeat (first | refine Zq ?_ | refine Zs ?_ | refine ZT ?_ | refine ZF ?_ | refine Zc ?_ | refine XO_gU (hk := ?_))
  refine XO_call (plen_spec p s k o rs) (hk := ?_)
  rintro _ _ ⟨rfl, rfl⟩
  repeat (first | refine Zq ?_ | refine Zs ?_ | refine ZT ?_ | refine ZF ?_ | refine Zc ?_ | refine XO_gU (hk := ?_))
  rcases List.eq_nil_or_concat rs with rfl | ⟨l, r, rfl⟩
  · refine X_cond rfl (fun _ => ?_) (fun h => by cases h)
    repeat (first | refine Zq ?_ | refine Zs ?_ | refine ZT ?_ | refine ZF ?_ | refine Zc ?_ | refine XO_gU (hk := ?_))
    refine XO_dv0 (dv_storeW (vs := [.int .i64 0, .int .i64 0])) (hk := ?_)
    rintro _ _ rfl
    repeat (first | refine Zq ?_ | refine Zs ?_ | refine ZT ?_ | refine ZF ?_ | refine Zc ?_ | refine XO_gU (hk := ?_))
    refine XE_ret (.inl rfl) (tells_many (rs := [.cell _ _, .tmp _]) (vs := [_, _]) rfl ⟨told_cell, told_tmp, trivial⟩) ⟨_, ⟨rfl, rfl⟩, by ((try simp only [List.cons_append, List.nil_append]); repeat (first | exact ent_refl | refine ent_take (by repeat (first | exact Find.here | apply Find.there)) ?_ | refine ent_drop ?_))⟩
  · rw [List.concat_eq_append] at hl ⊢
    rw [topR_snoc]
    have hll : (l ++ [r]).length = l.length + 1 := by simp
    refine X_cond rfl (fun h => ?_) (fun _ => ?_)
    · exfalso
      simp only [beq_iff_eq] at h
      omega
    refine X_open (A := Pl p s k o (l ++ [r])) (by (repeat (first | exact Find.here | apply Find.there))) Pl.open ?_
    rintro ⟨a, c⟩ -
    dsimp only [List.cons_append, List.nil_append]
    refine X_slopen (E' := eRun) (a := a) (c := c) (xs := l ++ [r]) (by (repeat (first | exact Find.here | apply Find.there))) (by omega) ?_
    rintro b oo rfl
    have hg : (l ++ [r])[(((l ++ [r]).length : Int) - 1).toNat]? = some r := by
      rw [hll, show (((l.length + 1 : Nat) : Int) - 1).toNat = l.length from by omega]; simp
    repeat (first | refine Zq ?_ | refine Zs ?_ | refine ZT ?_ | refine ZF ?_ | refine Zc ?_ | refine XO_gU (hk := ?_))
    repeat (first | refine XD_pick (h := ?_) | refine Dq ?_ | refine Ds ?_ | refine XDi_gF (h := ?_) | refine XDi_gU (h := ?_) | refine X_draws (h := ?_))
    refine XD_one (h := ?_)
    refine XDa_dvk0 (dv_storeW (vs := [.int .i64 r.1, .int .i64 r.2])) (K := _) (hk := ?_)
    (rintro _ _ rfl; refine ⟨by (repeat (first | exact keeps_nil | exact keeps_fnil | refine keeps_skip (h := ?_) | refine keeps_takeQ (h := ?_))), ?_⟩)
    repeat (first | refine XD_pick (h := ?_) | refine Dq ?_ | refine Ds ?_ | refine XDi_gF (h := ?_) | refine XDi_gU (h := ?_) | refine X_draws (h := ?_))
    (refine XD_one (h := ?_); refine XDa_dvA (dv_of_rv (rv_of_pv pv_assign)) (hk := ?_); rintro _ _ ⟨rfl, rfl⟩; refine ⟨by (repeat (first | exact keeps_nil | exact keeps_fnil | refine keeps_skip (h := ?_) | refine keeps_takeQ (h := ?_))), ?_⟩)
    (refine XD_end (h := ?_); repeat (first | refine Zq ?_ | refine Zs ?_ | refine ZT ?_ | refine ZF ?_ | refine Zc ?_ | refine XO_gU (hk := ?_)))
    refine XE_fold (by repeat (first | exact FindAll.nil | exact Find.here | apply Find.there | apply FindAll.cons)) Pl.fold ?_
    refine XE_ret (.inl rfl) (tells_many (rs := [.cell _ _, .tmp _]) (vs := [_, _]) rfl ⟨told_cell, told_tmp, trivial⟩) ⟨_, ⟨rfl, rfl⟩, by ((try simp only [List.cons_append, List.nil_append]); repeat (first | exact ent_refl | refine ent_take (by repeat (first | exact Find.here | apply Find.there)) ?_ | refine ent_drop ?_))⟩
theorem plink_spec (p s : Nat) (k o : Int) (rs : List (Int × Int)) (hl : rs.length ≤ 4611686018427387904) (hb : ∀ r ∈ rs, 0 ≤ r.1 ∧ r.1 ≤ 1048576) : Spec Try.prog 46 [.pointer (some ⟨p, 0, none⟩)] [Pl p s k o rs] (fun v L => v = .int .u64 (lastL 0 rs) ∧ L = [Pl p s k o rs]) := by
  refine Spec.intro (IsEnt.out) Try.func46 rfl Try.ntmps46 (by simp) (fun w0 F => ?_)
  simp only [envOf, List.zipIdx, List.map, List.cons_append, List.nil_append, Nat.zero_add, Nat.reduceAdd]
  repeat (first | refine Zq ?_ | refine Zs ?_ | refine ZT ?_ | refine ZF ?_ | refine Zc ?_ | refine XO_gU (hk := ?_))
  have ht := ptop_spec p s k o rs hl
  rcases List.eq_nil_or_concat rs with rfl | ⟨l, r, rfl⟩
  · refine XO_call ht (hk := ?_)
    rintro _ _ ⟨rfl, rfl⟩
    repeat (first | refine Zq ?_ | refine Zs ?_ | refine ZT ?_ | refine ZF ?_ | refine Zc ?_ | refine XO_gU (hk := ?_))
    refine XO_dv (dv_alloc (row := [.int .i64 0, .int .i64 0])) (hk := ?_)
    rintro _ _ ⟨rb, rfl, rfl⟩
    refine XO_dv0 (dv_storeW (vs := [.int .i64 0, .int .i64 0])) (hk := ?_)
    rintro _ _ rfl
    repeat (first | refine Zq ?_ | refine Zs ?_ | refine ZT ?_ | refine ZF ?_ | refine Zc ?_ | refine XO_gU (hk := ?_))
    refine X_cond rfl (fun _ => ?_) (fun h => by cases h)
    repeat (first | refine Zq ?_ | refine Zs ?_ | refine ZT ?_ | refine ZF ?_ | refine Zc ?_ | refine XO_gU (hk := ?_))
    refine XE_ret (.inl rfl) (tells_tmps rfl rfl) ⟨_, ⟨rfl, rfl⟩, by ((try simp only [List.cons_append, List.nil_append]); repeat (first | exact ent_refl | refine ent_take (by repeat (first | exact Find.here | apply Find.there)) ?_ | refine ent_drop ?_))⟩
  · rw [List.concat_eq_append] at hl hb ht ⊢
    have hr := hb r (by simp)
    rw [topR_snoc] at ht
    rw [lastL_snoc]
    refine XO_call ht (hk := ?_)
    rintro _ _ ⟨rfl, rfl⟩
    repeat (first | refine Zq ?_ | refine Zs ?_ | refine ZT ?_ | refine ZF ?_ | refine Zc ?_ | refine XO_gU (hk := ?_))
    refine XO_dv (dv_alloc (row := [.int .i64 0, .int .i64 0])) (hk := ?_)
    rintro _ _ ⟨rb, rfl, rfl⟩
    refine XO_dv0 (dv_storeW (vs := [.int .i64 r.1, .int .i64 r.2])) (hk := ?_)
    rintro _ _ rfl
    repeat (first | refine Zq ?_ | refine Zs ?_ | refine ZT ?_ | refine ZF ?_ | refine Zc ?_ | refine XO_gU (hk := ?_))
    refine X_cond rfl (fun h => by cases h) (fun _ => ?_)
    repeat (first | refine Zq ?_ | refine Zs ?_ | refine ZT ?_ | refine ZF ?_ | refine Zc ?_ | refine XO_gU (hk := ?_))
    refine XE_ret (.inl rfl) (tells_tmps rfl rfl) ⟨_, ⟨rfl, rfl⟩, by ((try simp only [List.cons_append, List.nil_append]); repeat (first | exact ent_refl | refine ent_take (by repeat (first | exact Find.here | apply Find.there)) ?_ | refine ent_drop ?_))⟩
theorem plpages_spec (p s : Nat) (k o : Int) (rs : List (Int × Int)) (hl : rs.length ≤ 1048576) (hB : Bd rs) : Spec Try.prog 23 [.pointer (some ⟨p, 0, none⟩)] [Pl p s k o rs] (fun v L => v = .int .i64 (totI rs) ∧ L = [Pl p s k o rs]) := by
  refine Spec.intro (IsEnt.out) Try.func23 rfl Try.ntmps23 (by simp) (fun w0 F => ?_)
  simp only [envOf, List.zipIdx, List.map, List.cons_append, List.nil_append, Nat.zero_add, Nat.reduceAdd]
  repeat (first | refine Zq ?_ | refine Zs ?_ | refine ZT ?_ | refine ZF ?_ | refine Zc ?_ | refine XO_gU (hk := ?_))
  refine X_cond rfl (fun h => by cases h) (fun _ => ?_)
  refine X_open .here Pl.open ?_
  rintro ⟨a, c⟩ -
  dsimp only [List.cons_append, List.nil_append]
  have htb : ∀ i, 0 ≤ totI (rs.take i) ∧ totI (rs.take i) ≤ 1048576 * (rs.length : Int) := fun i => by
    have key : ∀ l : List (Int × Int), (∀ r ∈ l, 0 ≤ r.1 ∧ 0 ≤ r.2 ∧ r.1 + r.2 ≤ 1048576) → 0 ≤ totI l ∧ totI l ≤ 1048576 * (l.length : Int) := by
      intro l
      induction l with
      | nil => intro _; simp [totI]
      | cons r l ih =>
        intro h
        have h1 := h r (by simp)
        have h2 := ih fun q hq => h q (by simp [hq])
        rw [tot_cons]; simp; omega
    have h1 := key (rs.take i) fun r hr => hB r (List.mem_of_mem_take hr)
    have h2 : (rs.take i).length ≤ rs.length := by simp; omega
    omega
  repeat (first | refine Zq ?_ | refine Zs ?_ | refine ZT ?_ | refine ZF ?_ | refine Zc ?_ | refine XO_gU (hk := ?_))
  refine X_loop (ι := Nat) (fun i => i ≤ rs.length) (fun i => [(0, .pointer (some ⟨p, 0, none⟩)), (11, .slice a rs.length c), (12, .int .i64 (rs.length : Int)), (13, .int .i64 (i : Int)), (3, .int .i64 (totI (rs.take i)))])
    (fun _ => pt p (.cells [.pointer (some ⟨s, 0, none⟩), .int .i64 k, .int .u64 o, .slice a rs.length c].toArray 98 (0, 0)) :: Sl eRun a c rs :: F) (fun i => rs.length - i) 0 (Nat.zero_le _) ?_ (by ((try simp only [List.cons_append, List.nil_append]); repeat (first | exact ent_refl | refine ent_take (by repeat (first | exact Find.here | apply Find.there)) ?_ | refine ent_drop ?_))) ?_
  · (repeat (first | exact Env.sub_nil _ | refine Env.sub_cons rfl ?_))
  intro i hi
  dsimp only at hi ⊢
  repeat (first | refine Zq ?_ | refine Zs ?_ | refine ZT ?_ | refine ZF ?_ | refine Zc ?_ | refine XO_gU (hk := ?_))
  refine X_cond rfl (fun hc => ?_) (fun hc => ?_) <;> simp only [decide_eq_true_eq, decide_eq_false_iff_not] at hc
  · have hil : i < rs.length := by omega
    have hg : rs[i]? = some rs[i] := List.getElem?_eq_getElem hil
    have hr := hB rs[i] (List.getElem_mem hil)
    have hs : totI (rs.take (i + 1)) = totI (rs.take i) + rs[i].2 := by rw [List.take_succ_eq_append_getElem hil, tot_append]; simp [totI]
    have hb1 := htb i
    refine X_slopen (E' := eRun) (a := a) (c := c) (xs := rs) (by (repeat (first | exact Find.here | apply Find.there))) (by omega) ?_
    rintro b oo rfl
    repeat (first | refine Zq ?_ | refine Zs ?_ | refine ZT ?_ | refine ZF ?_ | refine Zc ?_ | refine XO_gU (hk := ?_))
    refine XO_dv (dv_alloc (row := [.int .i64 0, .int .i64 0])) (hk := ?_)
    rintro _ _ ⟨rb, rfl, rfl⟩
    refine XO_dv0 (dv_storeW (vs := [.int .i64 rs[i].1, .int .i64 rs[i].2])) (hk := ?_)
    rintro _ _ rfl
    repeat (first | refine Zq ?_ | refine Zs ?_ | refine ZT ?_ | refine ZF ?_ | refine Zc ?_ | refine XO_gU (hk := ?_))
    exact X_round (i + 1) (by show i + 1 ≤ rs.length; omega) (by show rs.length - (i + 1) < rs.length - i; omega) (by rw [hs]; (repeat (first | exact Env.sub_nil _ | refine Env.sub_cons rfl ?_))) (by ((try simp only [List.cons_append, List.nil_append]); repeat (first | exact ent_refl | refine ent_take (by repeat (first | exact Find.here | apply Find.there)) ?_ | refine ent_drop ?_)))
  · obtain rfl : i = rs.length := by omega
    rw [List.take_length]
    repeat (first | refine Zq ?_ | refine Zs ?_ | refine ZT ?_ | refine ZF ?_ | refine Zc ?_ | refine XO_gU (hk := ?_))
    refine XE_fold (by repeat (first | exact FindAll.nil | exact Find.here | apply Find.there | apply FindAll.cons)) Pl.fold ?_
    refine XE_ret (.inl rfl) (tells_tmps rfl rfl) ⟨_, ⟨rfl, rfl⟩, by ((try simp only [List.cons_append, List.nil_append]); repeat (first | exact ent_refl | refine ent_take (by repeat (first | exact Find.here | apply Find.there)) ?_ | refine ent_drop ?_))⟩
theorem plnew_spec (s : Nat) (k o : Int) : Spec Try.prog 13 [.pointer (some ⟨s, 0, none⟩), .int .i64 k, .int .u64 o] [] (fun v L => ∃ p, v = .pointer (some ⟨p, 0, none⟩) ∧ L = [Pl p s k o []]) := by
  refine Spec.intro (IsEnt.out) Try.func13 rfl Try.ntmps13 (by simp) (fun w0 F => ?_)
  simp only [envOf, List.zipIdx, List.map, List.cons_append, List.nil_append, Nat.zero_add, Nat.reduceAdd]
  repeat (first | refine Zq ?_ | refine Zs ?_ | refine ZT ?_ | refine ZF ?_ | refine Zc ?_ | refine XO_gU (hk := ?_))
  refine XO_pv (pv_buildG [.pointer (some ⟨s, 0, none⟩), .int .i64 k, .int .u64 o, .slice none 0 0]) (hk := ?_)
  repeat (first | refine Zq ?_ | refine Zs ?_ | refine ZT ?_ | refine ZF ?_ | refine Zc ?_ | refine XO_gU (hk := ?_))
  refine XO_dv dv_box (hk := ?_)
  rintro _ _ ⟨p, rfl, rfl⟩
  repeat (first | refine Zq ?_ | refine Zs ?_ | refine ZT ?_ | refine ZF ?_ | refine Zc ?_ | refine XO_gU (hk := ?_))
  refine XE_conv (fun _ h => SL_nilSl eRun h) ?_
  refine XE_fold (by repeat (first | exact FindAll.nil | exact Find.here | apply Find.there | apply FindAll.cons)) (Pl.fold (p := p) (s := s) (k := k) (o := o) (rs := []) (a := none) (c := 0)) ?_
  refine XE_ret (.inl rfl) (tells_tmps rfl rfl) ⟨_, ⟨p, rfl, rfl⟩, by ((try simp only [List.cons_append, List.nil_append]); repeat (first | exact ent_refl | refine ent_take (by repeat (first | exact Find.here | apply Find.there)) ?_ | refine ent_drop ?_))⟩
end Go.Proofs.Ytmndddegnfbaaaa.Sep
namespace Go.Proofs.Ytmndddegnfbaaaa.Sep
open Go.RowKit
set_option linter.unusedSimpArgs false
set_option linter.unusedVariables false
/-! piles: chunks that are pushed and popped -/
theorem pl_bd {C : Co} {m : Int → Int} {k o : Int} {rs : List (Int × Int)} {oth : List (Int × Hd)} (hK : KInv C m (plH k o 0 rs ++ oth)) : ∀ r ∈ rs, RunOk C.P r := fun r hr => by
  have h : r ∈ gr (plH k o 0 rs) := by rw [plH_gr]; exact hr
  obtain ⟨q, hq, rfl⟩ := List.mem_map.1 h
  exact hK.run q (by simp [hq])
theorem pl_bd2 {C : Co} {m : Int → Int} {k o : Int} {rs : List (Int × Int)} {oth : List (Int × Hd)} (hK : KInv C m (plH k o 0 rs ++ oth)) : ∀ r ∈ rs, 0 ≤ r.1 ∧ r.1 ≤ 1048576 := fun r hr => by
  have h1 := pl_bd hK r hr
  have h2 := hK.ci.ok.p2
  unfold RunOk at h1
  omega
theorem lastL_bd {rs : List (Int × Int)} (h : ∀ r ∈ rs, 0 ≤ r.1 ∧ r.1 ≤ 1048576) : 0 ≤ lastL 0 rs ∧ lastL 0 rs < 18446744073709551616 := by
  rcases List.eq_nil_or_concat rs with rfl | ⟨l, r, rfl⟩
  · exact ⟨Int.le_refl _, by decide⟩
  · rw [List.concat_eq_append] at h ⊢
    have := h r (by simp)
    rw [lastL_snoc]; omega
/-- What is pushed. -/
def pushM (P : Int) (m : Mm) (k o nx pg n : Int) : Mm := lkM P (stM m (pg * 4096) (hdB ⟨n, k, o, 0⟩)) pg nx
theorem ppush_inv {C : Co} {m : Mm} {P k o n : Int} {rs : List (Int × Int)} {oth : List (Int × Hd)} (hK : KInv C m.f (plH k o 0 rs ++ oth)) (hP : C.P = P) (ho : 0 ≤ o ∧ o < 18446744073709551616) (hb : ¬ bad n k) (hz : (getC C (rnd n)).2.2 = 0) :
    KInv (getC C (rnd n)).1 (pushM P m k o (lastL 0 rs) (getC C (rnd n)).2.1 (rnd n)).f (plH k o 0 (rs ++ [((getC C (rnd n)).2.1, rnd n)]) ++ oth) ∧ (getC C (rnd n)).1.P = P := by
  obtain ⟨h1, h2⟩ := kget_inv hK hP ho hb hz
  refine ⟨?_, h2⟩
  have h3 := klink (l1 := plH k o 0 rs ++ oth) (l2 := []) h1 (lastL_bd (pl_bd2 hK))
  refine KInv.perm (g := (plH k o 0 rs ++ oth) ++ [((getC C (rnd n)).2.1, (⟨rnd n, k, o, lastL 0 rs⟩ : Hd))]) h3 ?_
  rw [plH_snoc, List.append_assoc, List.append_assoc]
  exact List.Perm.append_left _ (List.perm_append_comm)
set_option maxHeartbeats 8000000
attribute [local irreducible] X XE XO XD XDi XDa PV RV DV pt base Spec Sl Mp Keeps Pg Kc Pgs Spc Ck XL XLi Pl
theorem ppush_ok (p s sb : Nat) {C : Co} {m : Mm} {P k o n : Int} {rs : List (Int × Int)} {oth : List (Int × Hd)} (hK : KInv C m.f (plH k o 0 rs ++ oth)) (hP : C.P = P) (ho : 0 ≤ o ∧ o < 18446744073709551616) (hb : ¬ bad n k) (hz : (getC C (rnd n)).2.2 = 0) (hl : rs.length ≤ 1048576) :
    Spec Try.prog 14 [.pointer (some ⟨p, 0, none⟩), .int .i64 n] [Pl p s k o rs, Ck s sb C, Spc sb P m]
      (fun v L => v = .tuple #[.int .i64 (getC C (rnd n)).2.1, .int .i64 (rnd n), .int .i64 0] ∧ L = [Pl p s k o (rs ++ [((getC C (rnd n)).2.1, rnd n)]), Ck s sb (getC C (rnd n)).1, Spc sb P (pushM P m k o (lastL 0 rs) (getC C (rnd n)).2.1 (rnd n))]) := by
  refine Spec.intro (IsEnt.out) Try.func14 rfl Try.ntmps14 (by simp) (fun w0 F => ?_)
  simp only [envOf, List.zipIdx, List.map, List.cons_append, List.nil_append, Nat.zero_add, Nat.reduceAdd]
  have hK1 := kget_inv hK hP ho hb hz
  have s1 := kget_ok s sb hK hP ho hb hz
  have hbd := pl_bd2 hK
  unfold pushM
  generalize (getC C (rnd n)).1 = C1 at s1 hK1 ⊢
  generalize (getC C (rnd n)).2.1 = pg at s1 hK1 ⊢
  generalize rnd n = n' at s1 hK1 ⊢
  generalize stM m (pg * 4096) (hdB ⟨n', k, o, 0⟩) = m1 at s1 hK1 ⊢
  obtain ⟨hK1, hP1⟩ := hK1
  repeat (first | refine Zq ?_ | refine Zs ?_ | refine ZT ?_ | refine ZF ?_ | refine Zc ?_ | refine XO_gU (hk := ?_))
  refine X_cond rfl (fun h => by cases h) (fun _ => ?_)
  refine X_open .here Pl.open ?_
  rintro ⟨a, c⟩ -
  dsimp only [List.cons_append, List.nil_append]
  repeat (first | refine Zq ?_ | refine Zs ?_ | refine ZT ?_ | refine ZF ?_ | refine Zc ?_ | refine XO_gU (hk := ?_))
  repeat (first | refine XD_pick (h := ?_) | refine Dq ?_ | refine Ds ?_ | refine XDi_gF (h := ?_) | refine XDi_gU (h := ?_) | refine X_draws (h := ?_))
  refine XD_one (h := ?_)
  refine XDa_dvA (dv_call s1) (hk := ?_)
  (rintro _ _ ⟨_, ⟨rfl, rfl⟩, rfl⟩; refine ⟨by (repeat (first | exact keeps_nil | exact keeps_fnil | refine keeps_skip (h := ?_) | refine keeps_takeQ (h := ?_))), ?_⟩)
  repeat (first | refine XD_pick (h := ?_) | refine Dq ?_ | refine Ds ?_ | refine XDi_gF (h := ?_) | refine XDi_gU (h := ?_) | refine X_draws (h := ?_))
  (refine XD_one (h := ?_); refine XDa_dvA (dv_of_rv (rv_of_pv pv_assign)) (hk := ?_); rintro _ _ ⟨rfl, rfl⟩; refine ⟨by (repeat (first | exact keeps_nil | exact keeps_fnil | refine keeps_skip (h := ?_) | refine keeps_takeQ (h := ?_))), ?_⟩)
  (refine XD_one (h := ?_); refine XDa_dvA (dv_of_rv (rv_of_pv pv_assign)) (hk := ?_); rintro _ _ ⟨rfl, rfl⟩; refine ⟨by (repeat (first | exact keeps_nil | exact keeps_fnil | refine keeps_skip (h := ?_) | refine keeps_takeQ (h := ?_))), ?_⟩)
  (refine XD_one (h := ?_); refine XDa_dvA (dv_of_rv (rv_of_pv pv_assign)) (hk := ?_); rintro _ _ ⟨rfl, rfl⟩; refine ⟨by (repeat (first | exact keeps_nil | exact keeps_fnil | refine keeps_skip (h := ?_) | refine keeps_takeQ (h := ?_))), ?_⟩)
  (refine XD_end (h := ?_); repeat (first | refine Zq ?_ | refine Zs ?_ | refine ZT ?_ | refine ZF ?_ | refine Zc ?_ | refine XO_gU (hk := ?_)))
  refine X_cond rfl (fun h => by cases h) (fun _ => ?_)
  repeat (first | refine Zq ?_ | refine Zs ?_ | refine ZT ?_ | refine ZF ?_ | refine Zc ?_ | refine XO_gU (hk := ?_))
  refine XO_call (kspace_spec s sb C1) (hk := ?_)
  rintro _ _ ⟨rfl, rfl⟩
  repeat (first | refine Zq ?_ | refine Zs ?_ | refine ZT ?_ | refine ZF ?_ | refine Zc ?_ | refine XO_gU (hk := ?_))
  refine XO_fold (by repeat (first | exact FindAll.nil | exact Find.here | apply Find.there | apply FindAll.cons)) (Pl.fold (p := p) (s := s) (k := k) (o := o) (rs := rs) (a := a) (c := c)) ?_
  refine XO_call (plink_spec p s k o rs (by omega) hbd) (hk := ?_)
  rintro _ _ ⟨rfl, rfl⟩
  repeat (first | refine Zq ?_ | refine Zs ?_ | refine ZT ?_ | refine ZF ?_ | refine Zc ?_ | refine XO_gU (hk := ?_))
  refine XO_call (hlink_ok sb (l2 := []) (lastL 0 rs) hK1 hP1) (hk := ?_)
  rintro _ _ ⟨rfl, rfl⟩
  repeat (first | refine Zq ?_ | refine Zs ?_ | refine ZT ?_ | refine ZF ?_ | refine Zc ?_ | refine XO_gU (hk := ?_))
  refine XO_open (A := Pl p s k o rs) (by (repeat (first | exact Find.here | apply Find.there))) Pl.open ?_
  rintro ⟨a2, c2⟩ -
  dsimp only [List.cons_append, List.nil_append]
  repeat (first | refine Zq ?_ | refine Zs ?_ | refine ZT ?_ | refine ZF ?_ | refine Zc ?_ | refine XO_gU (hk := ?_))
  refine XO_lit (E' := eRun) [(pg, n')] (hk := ?_)
  intro lb
  repeat (first | refine Zq ?_ | refine Zs ?_ | refine ZT ?_ | refine ZF ?_ | refine Zc ?_ | refine XO_gU (hk := ?_))
  refine XO_dv (dv_append (E' := eRun) (xs := rs) (ys := [(pg, n')]) (hv := Sl.view) (hb := by simp; omega)) (hk := ?_)
  rintro _ _ ⟨a3, c3, rfl, rfl⟩
  repeat (first | refine Zq ?_ | refine Zs ?_ | refine ZT ?_ | refine ZF ?_ | refine Zc ?_ | refine XO_gU (hk := ?_))
  refine XO_dv0 dv_store (hk := ?_)
  rintro _ _ rfl
  repeat (first | refine Zq ?_ | refine Zs ?_ | refine ZT ?_ | refine ZF ?_ | refine Zc ?_ | refine XO_gU (hk := ?_))
  refine XE_fold (by repeat (first | exact FindAll.nil | exact Find.here | apply Find.there | apply FindAll.cons)) (Pl.fold (p := p) (s := s) (k := k) (o := o) (rs := rs ++ [(pg, n')]) (a := a3) (c := c3)) ?_
  refine XE_ret (.inl rfl) (tells_tmps rfl rfl) ⟨_, ⟨rfl, rfl⟩, by ((try simp only [List.cons_append, List.nil_append]); repeat (first | exact ent_refl | refine ent_take (by repeat (first | exact Find.here | apply Find.there)) ?_ | refine ent_drop ?_))⟩
theorem ppush_err (p s sb : Nat) {C C' : Co} {m : Mm} {P k o n e : Int} {rs : List (Int × Int)} (he : e ≠ 0)
    (s1 : Spec Try.prog 44 [.pointer (some ⟨s, 0, none⟩), .int .i64 n, .int .i64 k, .int .u64 o] [Ck s sb C, Spc sb P m] (fun v L => v = .tuple #[.int .i64 0, .int .i64 0, .int .i64 e] ∧ L = [Ck s sb C', Spc sb P m])) :
    Spec Try.prog 14 [.pointer (some ⟨p, 0, none⟩), .int .i64 n] [Pl p s k o rs, Ck s sb C, Spc sb P m]
      (fun v L => v = .tuple #[.int .i64 0, .int .i64 0, .int .i64 e] ∧ L = [Pl p s k o rs, Ck s sb C', Spc sb P m]) := by
  refine Spec.intro (IsEnt.out) Try.func14 rfl Try.ntmps14 (by simp) (fun w0 F => ?_)
  simp only [envOf, List.zipIdx, List.map, List.cons_append, List.nil_append, Nat.zero_add, Nat.reduceAdd]
  repeat (first | refine Zq ?_ | refine Zs ?_ | refine ZT ?_ | refine ZF ?_ | refine Zc ?_ | refine XO_gU (hk := ?_))
  refine X_cond rfl (fun h => by cases h) (fun _ => ?_)
  refine X_open .here Pl.open ?_
  rintro ⟨a, c⟩ -
  dsimp only [List.cons_append, List.nil_append]
  repeat (first | refine Zq ?_ | refine Zs ?_ | refine ZT ?_ | refine ZF ?_ | refine Zc ?_ | refine XO_gU (hk := ?_))
  repeat (first | refine XD_pick (h := ?_) | refine Dq ?_ | refine Ds ?_ | refine XDi_gF (h := ?_) | refine XDi_gU (h := ?_) | refine X_draws (h := ?_))
  refine XD_one (h := ?_)
  refine XDa_dvA (dv_call s1) (hk := ?_)
  (rintro _ _ ⟨_, ⟨rfl, rfl⟩, rfl⟩; refine ⟨by (repeat (first | exact keeps_nil | exact keeps_fnil | refine keeps_skip (h := ?_) | refine keeps_takeQ (h := ?_))), ?_⟩)
  repeat (first | refine XD_pick (h := ?_) | refine Dq ?_ | refine Ds ?_ | refine XDi_gF (h := ?_) | refine XDi_gU (h := ?_) | refine X_draws (h := ?_))
  (refine XD_one (h := ?_); refine XDa_dvA (dv_of_rv (rv_of_pv pv_assign)) (hk := ?_); rintro _ _ ⟨rfl, rfl⟩; refine ⟨by (repeat (first | exact keeps_nil | exact keeps_fnil | refine keeps_skip (h := ?_) | refine keeps_takeQ (h := ?_))), ?_⟩)
  (refine XD_one (h := ?_); refine XDa_dvA (dv_of_rv (rv_of_pv pv_assign)) (hk := ?_); rintro _ _ ⟨rfl, rfl⟩; refine ⟨by (repeat (first | exact keeps_nil | exact keeps_fnil | refine keeps_skip (h := ?_) | refine keeps_takeQ (h := ?_))), ?_⟩)
  (refine XD_one (h := ?_); refine XDa_dvA (dv_of_rv (rv_of_pv pv_assign)) (hk := ?_); rintro _ _ ⟨rfl, rfl⟩; refine ⟨by (repeat (first | exact keeps_nil | exact keeps_fnil | refine keeps_skip (h := ?_) | refine keeps_takeQ (h := ?_))), ?_⟩)
  (refine XD_end (h := ?_); repeat (first | refine Zq ?_ | refine Zs ?_ | refine ZT ?_ | refine ZF ?_ | refine Zc ?_ | refine XO_gU (hk := ?_)))
  refine X_cond rfl (fun _ => ?_) (fun h => absurd (by simpa using h) he)
  repeat (first | refine Zq ?_ | refine Zs ?_ | refine ZT ?_ | refine ZF ?_ | refine Zc ?_ | refine XO_gU (hk := ?_))
  refine XE_fold (by repeat (first | exact FindAll.nil | exact Find.here | apply Find.there | apply FindAll.cons)) (Pl.fold (p := p) (s := s) (k := k) (o := o) (rs := rs) (a := a) (c := c)) ?_
  refine XE_ret (.inl rfl) (tells_tmps rfl rfl) ⟨_, ⟨rfl, rfl⟩, by ((try simp only [List.cons_append, List.nil_append]); repeat (first | exact ent_refl | refine ent_take (by repeat (first | exact Find.here | apply Find.there)) ?_ | refine ent_drop ?_))⟩
end Go.Proofs.Ytmndddegnfbaaaa.Sep
namespace Go.Proofs.Ytmndddegnfbaaaa.Sep
open Go.RowKit
set_option linter.unusedSimpArgs false
set_option linter.unusedVariables false
/-! piles: the one on top is popped -/
def popM (P : Int) (m : Mm) (pg : Int) : Mm := kputM P (hrM P m pg) pg
theorem plH_top {C : Co} {m : Int → Int} {k o pg n : Int} {l : List (Int × Int)} {oth : List (Int × Hd)} (hK : KInv C m (plH k o 0 (l ++ [(pg, n)]) ++ oth)) : KInv C m (plH k o 0 l ++ (pg, (⟨n, k, o, lastL 0 l⟩ : Hd)) :: oth) := by
  rw [plH_snoc, List.append_assoc] at hK; exact hK
theorem ppop_inv {C : Co} {m : Mm} {P k o pg n : Int} {l : List (Int × Int)} {oth : List (Int × Hd)} (hK : KInv C m.f (plH k o 0 (l ++ [(pg, n)]) ++ oth)) (hP : C.P = P) :
    KInv (putC C (pg, n)) (popM P m pg).f (plH k o 0 l ++ oth) ∧ (putC C (pg, n)).P = P :=
  kput_inv (m := hrM P m pg) (hd := ⟨n, k, o, lastL 0 l⟩) (plH_top hK) hP
set_option maxHeartbeats 8000000
attribute [local irreducible] X XE XO XD XDi XDa PV RV DV pt base Spec Sl Mp Keeps Pg Kc Pgs Spc Ck XL XLi Pl
theorem ppop_ok (p s sb : Nat) {C : Co} {m : Mm} {P k o pg n : Int} {l : List (Int × Int)} {oth : List (Int × Hd)} (hK : KInv C m.f (plH k o 0 (l ++ [(pg, n)]) ++ oth)) (hP : C.P = P) (hl : l.length ≤ 1048576) :
    Spec Try.prog 15 [.pointer (some ⟨p, 0, none⟩)] [Pl p s k o (l ++ [(pg, n)]), Ck s sb C, Spc sb P m]
      (fun v L => v = .tuple #[.int .i64 pg, .int .i64 n, .int .i64 0] ∧ L = [Pl p s k o l, Ck s sb (putC C (pg, n)), Spc sb P (popM P m pg)]) := by
  refine Spec.intro (IsEnt.out) Try.func15 rfl Try.ntmps15 (by simp) (fun w0 F => ?_)
  simp only [envOf, List.zipIdx, List.map, List.cons_append, List.nil_append, Nat.zero_add, Nat.reduceAdd]
  have hT := plH_top hK
  have ht := ptop_spec p s k o (l ++ [(pg, n)]) (by simp; omega)
  rw [topR_snoc] at ht
  repeat (first | refine Zq ?_ | refine Zs ?_ | refine ZT ?_ | refine ZF ?_ | refine Zc ?_ | refine XO_gU (hk := ?_))
  refine XO_call ht (hk := ?_)
  rintro _ _ ⟨rfl, rfl⟩
  repeat (first | refine Zq ?_ | refine Zs ?_ | refine ZT ?_ | refine ZF ?_ | refine Zc ?_ | refine XO_gU (hk := ?_))
  refine XO_dv (dv_alloc (row := [.int .i64 0, .int .i64 0])) (hk := ?_)
  rintro _ _ ⟨rb, rfl, rfl⟩
  refine XO_dv0 (dv_storeW (vs := [.int .i64 pg, .int .i64 n])) (hk := ?_)
  rintro _ _ rfl
  repeat (first | refine Zq ?_ | refine Zs ?_ | refine ZT ?_ | refine ZF ?_ | refine Zc ?_ | refine XO_gU (hk := ?_))
  refine X_cond rfl (fun h => by cases h) (fun _ => ?_)
  refine X_open (A := Pl p s k o (l ++ [(pg, n)])) (by (repeat (first | exact Find.here | apply Find.there))) Pl.open ?_
  rintro ⟨a, c⟩ -
  dsimp only [List.cons_append, List.nil_append]
  repeat (first | refine Zq ?_ | refine Zs ?_ | refine ZT ?_ | refine ZF ?_ | refine Zc ?_ | refine XO_gU (hk := ?_))
  repeat (first | refine XD_pick (h := ?_) | refine Dq ?_ | refine Ds ?_ | refine XDi_gF (h := ?_) | refine XDi_gU (h := ?_) | refine X_draws (h := ?_))
  refine XL_start 11 7 (fun b => pt b (.cells [.int .i64 0, .int .i64 0, .int .u64 0, .int .u64 0].toArray 41 (0, 0))) ?_
  refine XL_call (kspace_spec s sb C) ?_
  (rintro _ _ ⟨rfl, rfl⟩; refine ⟨by (repeat (first | exact keeps_nil | exact keeps_fnil | refine keeps_skip (h := ?_) | refine keeps_takeQ (h := ?_))), ?_⟩)
  (repeat (first | refine XL_pick ?_ | refine Lq ?_ | refine Ls ?_))
  refine XL_call (hread_ok sb hT hP) ?_
  (rintro _ _ ⟨rfl, rfl⟩; refine ⟨by (repeat (first | exact keeps_nil | exact keeps_fnil | refine keeps_skip (h := ?_) | refine keeps_takeQ (h := ?_))), ?_⟩)
  (repeat (first | refine XL_pick ?_ | refine Lq ?_ | refine Ls ?_))
  refine XL_end ?_
  intro xb
  repeat (first | refine XD_pick (h := ?_) | refine Dq ?_ | refine Ds ?_ | refine XDi_gF (h := ?_) | refine XDi_gU (h := ?_) | refine X_draws (h := ?_))
  refine XD_one (h := ?_)
  refine XDa_dvk0 (dv_storeW (vs := [.int .i64 n, .int .i64 k, .int .u64 o, .int .u64 (lastL 0 l)])) (K := _) (hk := ?_)
  (rintro _ _ rfl; refine ⟨by (repeat (first | exact keeps_nil | exact keeps_fnil | refine keeps_skip (h := ?_) | refine keeps_takeQ (h := ?_))), ?_⟩)
  repeat (first | refine XD_pick (h := ?_) | refine Dq ?_ | refine Ds ?_ | refine XDi_gF (h := ?_) | refine XDi_gU (h := ?_) | refine X_draws (h := ?_))
  (refine XD_one (h := ?_); refine XDa_dvA (dv_of_rv (rv_of_pv pv_assign)) (hk := ?_); rintro _ _ ⟨rfl, rfl⟩; refine ⟨by (repeat (first | exact keeps_nil | exact keeps_fnil | refine keeps_skip (h := ?_) | refine keeps_takeQ (h := ?_))), ?_⟩)
  (refine XD_end (h := ?_); repeat (first | refine Zq ?_ | refine Zs ?_ | refine ZT ?_ | refine ZF ?_ | refine Zc ?_ | refine XO_gU (hk := ?_)))
  refine X_cond rfl (fun h => by cases h) (fun _ => ?_)
  repeat (first | refine Zq ?_ | refine Zs ?_ | refine ZT ?_ | refine ZF ?_ | refine Zc ?_ | refine XO_gU (hk := ?_))
  repeat (first | refine XD_pick (h := ?_) | refine Dq ?_ | refine Ds ?_ | refine XDi_gF (h := ?_) | refine XDi_gU (h := ?_) | refine X_draws (h := ?_))
  have hpt := kput_ok s sb (m := hrM P m pg) (hd := ⟨n, k, o, lastL 0 l⟩) hT hP
  refine XD_one (h := ?_)
  refine XDa_dvA (dv_call hpt) (hk := ?_)
  (rintro _ _ ⟨_, ⟨rfl, rfl⟩, rfl⟩; refine ⟨by (repeat (first | exact keeps_nil | exact keeps_fnil | refine keeps_skip (h := ?_) | refine keeps_takeQ (h := ?_))), ?_⟩)
  repeat (first | refine XD_pick (h := ?_) | refine Dq ?_ | refine Ds ?_ | refine XDi_gF (h := ?_) | refine XDi_gU (h := ?_) | refine X_draws (h := ?_))
  (refine XD_one (h := ?_); refine XDa_dvA (dv_of_rv (rv_of_pv pv_assign)) (hk := ?_); rintro _ _ ⟨rfl, rfl⟩; refine ⟨by (repeat (first | exact keeps_nil | exact keeps_fnil | refine keeps_skip (h := ?_) | refine keeps_takeQ (h := ?_))), ?_⟩)
  (refine XD_end (h := ?_); repeat (first | refine Zq ?_ | refine Zs ?_ | refine ZT ?_ | refine ZF ?_ | refine Zc ?_ | refine XO_gU (hk := ?_)))
  refine X_cond rfl (fun h => by cases h) (fun _ => ?_)
  have hll : (l ++ [(pg, n)]).length = l.length + 1 := by simp
  refine X_fact (A := Sl eRun a c (l ++ [(pg, n)])) (by (repeat (first | exact Find.here | apply Find.there))) Sl.cap (fun hcap => ?_)
  repeat (first | refine Zq ?_ | refine Zs ?_ | refine ZT ?_ | refine ZF ?_ | refine Zc ?_ | refine XO_gU (hk := ?_))
  refine XO_pv pv_sliceHM (hk := ?_)
  repeat (first | refine Zq ?_ | refine Zs ?_ | refine ZT ?_ | refine ZF ?_ | refine Zc ?_ | refine XO_gU (hk := ?_))
  refine XO_dv0 dv_store (hk := ?_)
  rintro _ _ rfl
  repeat (first | refine Zq ?_ | refine Zs ?_ | refine ZT ?_ | refine ZF ?_ | refine Zc ?_ | refine XO_gU (hk := ?_))
  have e1 : (((l ++ [(pg, n)]).length : Int) - 1).toNat = l.length := by omega
  rw [e1]
  refine X_conv (fun _ => SL_take (E' := eRun) (a := a) (c := c) (xs := l ++ [(pg, n)]) l.length (by (repeat (first | exact Find.here | apply Find.there)))) ?_
  rw [List.take_left]
  refine X_conv (fun _ h => SL.head (Sl.less (E' := eRun) (c' := l.length) (by omega) (Nat.le_refl _)) h) ?_
  repeat (first | refine Zq ?_ | refine Zs ?_ | refine ZT ?_ | refine ZF ?_ | refine Zc ?_ | refine XO_gU (hk := ?_))
  repeat (first | refine XD_pick (h := ?_) | refine Dq ?_ | refine Ds ?_ | refine XDi_gF (h := ?_) | refine XDi_gU (h := ?_) | refine X_draws (h := ?_))
  (refine XD_one (h := ?_); refine XDa_dvA (dv_of_rv (rv_of_pv pv_assign)) (hk := ?_); rintro _ _ ⟨rfl, rfl⟩; refine ⟨by (repeat (first | exact keeps_nil | exact keeps_fnil | refine keeps_skip (h := ?_) | refine keeps_takeQ (h := ?_))), ?_⟩)
  (refine XD_one (h := ?_); refine XDa_dvA (dv_of_rv (rv_of_pv pv_assign)) (hk := ?_); rintro _ _ ⟨rfl, rfl⟩; refine ⟨by (repeat (first | exact keeps_nil | exact keeps_fnil | refine keeps_skip (h := ?_) | refine keeps_takeQ (h := ?_))), ?_⟩)
  (refine XD_one (h := ?_); refine XDa_dvA (dv_of_rv (rv_of_pv pv_assign)) (hk := ?_); rintro _ _ ⟨rfl, rfl⟩; refine ⟨by (repeat (first | exact keeps_nil | exact keeps_fnil | refine keeps_skip (h := ?_) | refine keeps_takeQ (h := ?_))), ?_⟩)
  (refine XD_end (h := ?_); repeat (first | refine Zq ?_ | refine Zs ?_ | refine ZT ?_ | refine ZF ?_ | refine Zc ?_ | refine XO_gU (hk := ?_)))
  refine XE_fold (by repeat (first | exact FindAll.nil | exact Find.here | apply Find.there | apply FindAll.cons)) (Pl.fold (p := p) (s := s) (k := k) (o := o) (rs := l) (a := a) (c := l.length)) ?_
  refine XE_ret (.inl rfl) (tells_tmps rfl rfl) ⟨_, ⟨rfl, rfl⟩, by ((try simp only [List.cons_append, List.nil_append]); repeat (first | exact ent_refl | refine ent_take (by repeat (first | exact Find.here | apply Find.there)) ?_ | refine ent_drop ?_))⟩
theorem pcut_ok (p s sb : Nat) {k o P : Int} {oth : List (Int × Hd)} (hP2 : P ≤ 1048576) : ∀ (r2 : List (Int × Int)) (rs : List (Int × Int)) (C : Co) (m : Mm), KInv C m.f (plH k o 0 (rs ++ r2) ++ oth) → C.P = P → (rs ++ r2).length ≤ 1048576 →
    KInv (r2.reverse.foldl putC C) (r2.reverse.foldl (fun m r => popM P m r.1) m).f (plH k o 0 rs ++ oth) ∧ (r2.reverse.foldl putC C).P = P := by
  intro r2
  induction r2 with
  | nil => intro rs C m hK hP _; rw [List.append_nil] at hK; exact ⟨hK, hP⟩
  | cons r r2 ih =>
    intro rs C m hK hP hl
    have e : rs ++ r :: r2 = (rs ++ [r]) ++ r2 := by simp
    rw [e] at hK hl
    obtain ⟨h1, h2⟩ := ih (rs ++ [r]) C m hK hP hl
    rw [List.reverse_cons, List.foldl_append, List.foldl_append]
    exact ppop_inv (pg := r.1) (n := r.2) h1 h2
end Go.Proofs.Ytmndddegnfbaaaa.Sep
namespace Go.Proofs.Ytmndddegnfbaaaa.Sep
open Go.RowKit
set_option linter.unusedSimpArgs false
set_option linter.unusedVariables false
/-! piles: cut, and walked -/
def cutC (C : Co) (l : List (Int × Int)) : Co := l.reverse.foldl putC C
def cutM (P : Int) (m : Mm) (l : List (Int × Int)) : Mm := l.reverse.foldl (fun m r => popM P m r.1) m
theorem cutC_cons (C : Co) (r : Int × Int) (l : List (Int × Int)) : cutC C (r :: l) = putC (cutC C l) r := by unfold cutC; rw [List.reverse_cons, List.foldl_append]; rfl
theorem cutM_cons (P : Int) (m : Mm) (r : Int × Int) (l : List (Int × Int)) : cutM P m (r :: l) = popM P (cutM P m l) r.1 := by unfold cutM; rw [List.reverse_cons, List.foldl_append]; rfl
theorem pcut_inv {k o P : Int} {oth : List (Int × Hd)} {rs : List (Int × Int)} {C : Co} {m : Mm} (hK : KInv C m.f (plH k o 0 rs ++ oth)) (hP : C.P = P) (hl : rs.length ≤ 1048576) (j : Nat) :
    KInv (cutC C (rs.drop j)) (cutM P m (rs.drop j)).f (plH k o 0 (rs.take j) ++ oth) ∧ (cutC C (rs.drop j)).P = P :=
  pcut_ok 0 0 0 (by have := hK.ci.ok.p2; omega) (rs.drop j) (rs.take j) C m (by rw [List.take_append_drop]; exact hK) hP (by rw [List.take_append_drop]; exact hl)
set_option maxHeartbeats 8000000
attribute [local irreducible] X XE XO XD XDi XDa PV RV DV pt base Spec Sl Mp Keeps Pg Kc Pgs Spc Ck XL XLi Pl
theorem pcut_spec (p s sb : Nat) {C : Co} {m : Mm} {P k o n : Int} {rs : List (Int × Int)} {oth : List (Int × Hd)} (hK : KInv C m.f (plH k o 0 rs ++ oth)) (hP : C.P = P) (hl : rs.length ≤ 1048576) (hn : 0 ≤ n) :
    Spec Try.prog 22 [.pointer (some ⟨p, 0, none⟩), .int .i64 n] [Pl p s k o rs, Ck s sb C, Spc sb P m]
      (fun v L => v = .int .i64 0 ∧ L = [Pl p s k o (rs.take n.toNat), Ck s sb (cutC C (rs.drop n.toNat)), Spc sb P (cutM P m (rs.drop n.toNat))]) := by
  refine Spec.intro (IsEnt.out) Try.func22 rfl Try.ntmps22 (by simp) (fun w0 F => ?_)
  simp only [envOf, List.zipIdx, List.map, List.cons_append, List.nil_append, Nat.zero_add, Nat.reduceAdd]
  repeat (first | refine Zq ?_ | refine Zs ?_ | refine ZT ?_ | refine ZF ?_ | refine Zc ?_ | refine XO_gU (hk := ?_))
  refine X_cond rfl (fun h => ?_) (fun _ => ?_)
  · simp only [decide_eq_true_eq] at h; omega
  repeat (first | refine Zq ?_ | refine Zs ?_ | refine ZT ?_ | refine ZF ?_ | refine Zc ?_ | refine XO_gU (hk := ?_))
  refine X_loop (ι := Nat) (fun j => j ≤ rs.length ∧ min n.toNat rs.length ≤ j) (fun j => [(0, .pointer (some ⟨p, 0, none⟩)), (1, .int .i64 n)])
    (fun j => Pl p s k o (rs.take j) :: Ck s sb (cutC C (rs.drop j)) :: Spc sb P (cutM P m (rs.drop j)) :: F) (fun j => j) rs.length ⟨Nat.le_refl _, Nat.min_le_right _ _⟩ ?_ (by rw [List.take_length, List.drop_length]; ((try simp only [List.cons_append, List.nil_append]); repeat (first | exact ent_refl | refine ent_take (by repeat (first | exact Find.here | apply Find.there)) ?_ | refine ent_drop ?_))) ?_
  · (repeat (first | exact Env.sub_nil _ | refine Env.sub_cons rfl ?_))
  rintro j ⟨hj, hm⟩
  dsimp only at hj hm ⊢
  obtain ⟨hK1, hP1⟩ := pcut_inv hK hP hl j
  repeat (first | refine Zq ?_ | refine Zs ?_ | refine ZT ?_ | refine ZF ?_ | refine Zc ?_ | refine XO_gU (hk := ?_))
  refine XO_call (plen_spec p s k o (rs.take j)) (hk := ?_)
  rintro _ _ ⟨rfl, rfl⟩
  have hjl : (rs.take j).length = j := by simp; omega
  repeat (first | refine Zq ?_ | refine Zs ?_ | refine ZT ?_ | refine ZF ?_ | refine Zc ?_ | refine XO_gU (hk := ?_))
  refine X_cond rfl (fun hc => ?_) (fun hc => ?_) <;> simp only [hjl, decide_eq_true_eq, decide_eq_false_iff_not] at hc
  · obtain ⟨i, rfl⟩ : ∃ i, j = i + 1 := ⟨j - 1, by omega⟩
    have hil : i < rs.length := by omega
    have e1 : rs.take (i + 1) = rs.take i ++ [rs[i]] := List.take_succ_eq_append_getElem hil
    have e2 : rs.drop i = rs[i] :: rs.drop (i + 1) := List.drop_eq_getElem_cons hil
    rw [e1] at hK1 ⊢
    have hp := ppop_ok p s sb (pg := rs[i].1) (n := rs[i].2) hK1 hP1 (by simp; omega)
    repeat (first | refine Zq ?_ | refine Zs ?_ | refine ZT ?_ | refine ZF ?_ | refine Zc ?_ | refine XO_gU (hk := ?_))
    refine XO_call hp (hk := ?_)
    rintro _ _ ⟨rfl, rfl⟩
    repeat (first | refine Zq ?_ | refine Zs ?_ | refine ZT ?_ | refine ZF ?_ | refine Zc ?_ | refine XO_gU (hk := ?_))
    refine X_cond rfl (fun h => by cases h) (fun _ => ?_)
    repeat (first | refine Zq ?_ | refine Zs ?_ | refine ZT ?_ | refine ZF ?_ | refine Zc ?_ | refine XO_gU (hk := ?_))
    exact X_round i ⟨by omega, by omega⟩ (by omega) (by (repeat (first | exact Env.sub_nil _ | refine Env.sub_cons rfl ?_))) (by rw [e2, cutC_cons, cutM_cons]; ((try simp only [List.cons_append, List.nil_append]); repeat (first | exact ent_refl | refine ent_take (by repeat (first | exact Find.here | apply Find.there)) ?_ | refine ent_drop ?_)))
  · have e3 : rs.take j = rs.take n.toNat ∧ rs.drop j = rs.drop n.toNat := by
      by_cases h1 : n.toNat ≤ rs.length
      · obtain rfl : j = n.toNat := by omega
        exact ⟨rfl, rfl⟩
      · obtain rfl : j = rs.length := by omega
        exact ⟨by rw [List.take_length, List.take_of_length_le (by omega)], by rw [List.drop_length, List.drop_of_length_le (by omega)]⟩
    rw [e3.1, e3.2]
    repeat (first | refine Zq ?_ | refine Zs ?_ | refine ZT ?_ | refine ZF ?_ | refine Zc ?_ | refine XO_gU (hk := ?_))
    refine XE_ret (.inl rfl) (tells_tmps rfl rfl) ⟨_, ⟨rfl, rfl⟩, by ((try simp only [List.cons_append, List.nil_append]); repeat (first | exact ent_refl | refine ent_take (by repeat (first | exact Find.here | apply Find.there)) ?_ | refine ent_drop ?_))⟩
theorem pcut_neg (p : Nat) {n : Int} (hn : n < 0) : Spec Try.prog 22 [.pointer (some ⟨p, 0, none⟩), .int .i64 n] [] (fun v L => v = .int .i64 1 ∧ L = []) := by
  refine Spec.intro (IsEnt.out) Try.func22 rfl Try.ntmps22 (by simp) (fun w0 F => ?_)
  simp only [envOf, List.zipIdx, List.map, List.cons_append, List.nil_append, Nat.zero_add, Nat.reduceAdd]
  repeat (first | refine Zq ?_ | refine Zs ?_ | refine ZT ?_ | refine ZF ?_ | refine Zc ?_ | refine XO_gU (hk := ?_))
  refine X_cond rfl (fun _ => ?_) (fun h => ?_)
  · repeat (first | refine Zq ?_ | refine Zs ?_ | refine ZT ?_ | refine ZF ?_ | refine Zc ?_ | refine XO_gU (hk := ?_))
    refine XE_ret (.inl rfl) (tells_tmps rfl rfl) ⟨_, ⟨rfl, rfl⟩, by ((try simp only [List.cons_append, List.nil_append]); repeat (first | exact ent_refl | refine ent_take (by repeat (first | exact Find.here | apply Find.there)) ?_ | refine ent_drop ?_))⟩
  · simp only [decide_eq_false_iff_not] at h; omega
/-- What is touched by a walk. -/
def walkM (P : Int) (m : Mm) (l : List (Int × Int)) : Mm := l.reverse.foldl (fun m r => hrM P m r.1) m
theorem walkM_f (P : Int) (l : List (Int × Int)) (m : Mm) : (walkM P m l).f = m.f := by
  unfold walkM
  generalize l.reverse = r
  induction r generalizing m with
  | nil => rfl
  | cons q r ih => exact ih (hrM P m q.1)
theorem walkM_cons (P : Int) (m : Mm) (r : Int × Int) (l : List (Int × Int)) : walkM P m (r :: l) = hrM P (walkM P m l) r.1 := by unfold walkM; rw [List.reverse_cons, List.foldl_append]; rfl
theorem pwalk_spec (p s sb : Nat) {C : Co} {m : Mm} {P k o : Int} {rs : List (Int × Int)} {oth : List (Int × Hd)} (hK : KInv C m.f (plH k o 0 rs ++ oth)) (hP : C.P = P) (hl : rs.length ≤ 1048576) :
    Spec Try.prog 16 [.pointer (some ⟨p, 0, none⟩)] [Pl p s k o rs, Ck s sb C, Spc sb P m]
      (fun v L => ∃ a c, v = .tuple #[.slice a rs.reverse.length c, .int .i64 0] ∧ L = [Sl eRun a c rs.reverse, Pl p s k o rs, Ck s sb C, Spc sb P (walkM P m rs)]) := by
  refine Spec.intro (IsEnt.out) Try.func16 rfl Try.ntmps16 (by simp) (fun w0 F => ?_)
  simp only [envOf, List.zipIdx, List.map, List.cons_append, List.nil_append, Nat.zero_add, Nat.reduceAdd]
  have hbd := pl_bd2 hK
  repeat (first | refine Zq ?_ | refine Zs ?_ | refine ZT ?_ | refine ZF ?_ | refine Zc ?_ | refine XO_gU (hk := ?_))
  refine X_cond rfl (fun h => by cases h) (fun _ => ?_)
  repeat (first | refine Zq ?_ | refine Zs ?_ | refine ZT ?_ | refine ZF ?_ | refine Zc ?_ | refine XO_gU (hk := ?_))
  refine XO_call (plink_spec p s k o rs (by omega) hbd) (hk := ?_)
  rintro _ _ ⟨rfl, rfl⟩
  repeat (first | refine Zq ?_ | refine Zs ?_ | refine ZT ?_ | refine ZF ?_ | refine Zc ?_ | refine XO_gU (hk := ?_))
  refine X_conv (fun _ h => SL_nilSl eRun h) ?_
  refine X_loop (ι := Nat × Option Addr × Nat) (fun q => q.1 ≤ rs.length) (fun q => [(0, .pointer (some ⟨p, 0, none⟩)), (4, .slice q.2.1 (rs.drop q.1).reverse.length q.2.2), (5, .int .u64 (lastL 0 (rs.take q.1)))])
    (fun q => Sl eRun q.2.1 q.2.2 (rs.drop q.1).reverse :: Pl p s k o rs :: Ck s sb C :: Spc sb P (walkM P m (rs.drop q.1)) :: F) (fun q => q.1) (rs.length, none, 0) (Nat.le_refl _) ?_ (by dsimp only; rw [List.drop_length]; ((try simp only [List.cons_append, List.nil_append]); repeat (first | exact ent_refl | refine ent_take (by repeat (first | exact Find.here | apply Find.there)) ?_ | refine ent_drop ?_))) ?_
  · dsimp only
    rw [List.drop_length, List.take_length]
    (repeat (first | exact Env.sub_nil _ | refine Env.sub_cons rfl ?_))
  rintro ⟨j, a, c⟩ hj
  dsimp only at hj ⊢
  have hdl : (rs.drop j).reverse.length = rs.length - j := by simp
  have hKw : KInv C (walkM P m (rs.drop j)).f (plH k o 0 rs ++ oth) := by rw [walkM_f]; exact hK
  cases j with
  | zero =>
    repeat (first | refine Zq ?_ | refine Zs ?_ | refine ZT ?_ | refine ZF ?_ | refine Zc ?_ | refine XO_gU (hk := ?_))
    refine X_cond rfl (fun h => by cases h) (fun _ => ?_)
    repeat (first | refine Zq ?_ | refine Zs ?_ | refine ZT ?_ | refine ZF ?_ | refine Zc ?_ | refine XO_gU (hk := ?_))
    refine XE_ret (.inl rfl) (tells_tmps rfl rfl) ⟨_, ⟨a, c, rfl, rfl⟩, ?_⟩
    ((try simp only [List.cons_append, List.nil_append]); repeat (first | exact ent_refl | refine ent_take (by repeat (first | exact Find.here | apply Find.there)) ?_ | refine ent_drop ?_))
  | succ i =>
    have hil : i < rs.length := by omega
    have e1 : rs.take (i + 1) = rs.take i ++ [rs[i]] := List.take_succ_eq_append_getElem hil
    have e2 : rs.drop i = rs[i] :: rs.drop (i + 1) := List.drop_eq_getElem_cons hil
    have hr := hbd rs[i] (List.getElem_mem hil)
    have hsp : rs = rs.take i ++ [rs[i]] ++ rs.drop (i + 1) := by rw [List.append_assoc, List.singleton_append, ← e2, List.take_append_drop]
    have hP3 : lastL 0 (rs.take (i + 1)) = rs[i].1 + 1 := by rw [e1]; exact lastL_snoc _ _ _ _
    have hKi : KInv C (walkM P m (rs.drop (i + 1))).f (plH k o 0 (rs.take i) ++ (rs[i].1, (⟨rs[i].2, k, o, lastL 0 (rs.take i)⟩ : Hd)) :: (plH k o (rs[i].1 + 1) (rs.drop (i + 1)) ++ oth)) := by
      refine hKw.perm (List.Perm.of_eq ?_)
      have happ : ∀ (l1 l2 : List (Int × Int)) (nx : Int), plH k o nx (l1 ++ l2) = plH k o nx l1 ++ plH k o (lastL nx l1) l2 := by
        intro l1
        induction l1 with
        | nil => intro l2 nx; rfl
        | cons q l1 ih => intro l2 nx; obtain ⟨q1, q2⟩ := q; show (q1, _) :: plH k o (q1 + 1) (l1 ++ l2) = _; rw [ih]; rfl
      have e4 : rs = rs.take i ++ rs[i] :: rs.drop (i + 1) := by rw [← e2, List.take_append_drop]
      have e5 : plH k o 0 rs = plH k o 0 (rs.take i) ++ plH k o (lastL 0 (rs.take i)) (rs[i] :: rs.drop (i + 1)) := by
        have := happ (rs.take i) (rs[i] :: rs.drop (i + 1)) 0
        rw [← e4] at this; exact this
      rw [e5, List.append_assoc]; rfl
    rw [hP3]
    repeat (first | refine Zq ?_ | refine Zs ?_ | refine ZT ?_ | refine ZF ?_ | refine Zc ?_ | refine XO_gU (hk := ?_))
    refine XO_known true (hb := by simp; omega) (hk := ?_)
    repeat (first | refine Zq ?_ | refine Zs ?_ | refine ZT ?_ | refine ZF ?_ | refine Zc ?_ | refine XO_gU (hk := ?_))
    refine XO_call (plen_spec p s k o rs) (hk := ?_)
    rintro _ _ ⟨rfl, rfl⟩
    repeat (first | refine Zq ?_ | refine Zs ?_ | refine ZT ?_ | refine ZF ?_ | refine Zc ?_ | refine XO_gU (hk := ?_))
    refine X_cond rfl (fun _ => ?_) (fun h => ?_)
    case refine_2 =>
      exfalso
      simp only [hdl, decide_eq_false_iff_not] at h
      omega
    refine X_open (A := Pl p s k o rs) (by (repeat (first | exact Find.here | apply Find.there))) Pl.open ?_
    rintro ⟨a2, c2⟩ -
    dsimp only [List.cons_append, List.nil_append]
    repeat (first | refine Zq ?_ | refine Zs ?_ | refine ZT ?_ | refine ZF ?_ | refine Zc ?_ | refine XO_gU (hk := ?_))
    refine XO_call (kspace_spec s sb C) (hk := ?_)
    rintro _ _ ⟨rfl, rfl⟩
    repeat (first | refine Zq ?_ | refine Zs ?_ | refine ZT ?_ | refine ZF ?_ | refine Zc ?_ | refine XO_gU (hk := ?_))
    refine XO_reval 31 (.int .i64 rs[i].1) (hv := congrArg (Value.int .i64) (by omega)) (hk := ?_)
    refine XO_reval 6 (.int .i64 rs[i].1) (hv := congrArg (Value.int .i64) (by omega)) (hk := ?_)
    refine XO_call (hread_ok sb hKi hP) (hk := ?_)
    rintro _ _ ⟨rfl, rfl⟩
    repeat (first | refine Zq ?_ | refine Zs ?_ | refine ZT ?_ | refine ZF ?_ | refine Zc ?_ | refine XO_gU (hk := ?_))
    refine XO_dv (dv_alloc (row := [.int .i64 0, .int .i64 0, .int .u64 0, .int .u64 0])) (hk := ?_)
    rintro _ _ ⟨xb, rfl, rfl⟩
    refine XO_dv0 (dv_storeW (vs := [.int .i64 rs[i].2, .int .i64 k, .int .u64 o, .int .u64 (lastL 0 (rs.take i))])) (hk := ?_)
    rintro _ _ rfl
    repeat (first | refine Zq ?_ | refine Zs ?_ | refine ZT ?_ | refine ZF ?_ | refine Zc ?_ | refine XO_gU (hk := ?_))
    refine X_cond rfl (fun h => by cases h) (fun _ => ?_)
    repeat (first | refine Zq ?_ | refine Zs ?_ | refine ZT ?_ | refine ZF ?_ | refine Zc ?_ | refine XO_gU (hk := ?_))
    refine XO_lit (E' := eRun) [(rs[i].1, rs[i].2)] (hk := ?_)
    intro lb
    repeat (first | refine Zq ?_ | refine Zs ?_ | refine ZT ?_ | refine ZF ?_ | refine Zc ?_ | refine XO_gU (hk := ?_))
    refine XO_dv (dv_append (E' := eRun) (xs := (rs.drop (i + 1)).reverse) (ys := [(rs[i].1, rs[i].2)]) (hv := Sl.view) (hb := by simp; omega)) (hk := ?_)
    rintro _ _ ⟨a3, c3, rfl, rfl⟩
    repeat (first | refine Zq ?_ | refine Zs ?_ | refine ZT ?_ | refine ZF ?_ | refine Zc ?_ | refine XO_gU (hk := ?_))
    have e6 : (rs.drop (i + 1)).reverse ++ [(rs[i].1, rs[i].2)] = (rs.drop i).reverse := by rw [e2, List.reverse_cons]
    rw [e6]
    refine XE_fold (by repeat (first | exact FindAll.nil | exact Find.here | apply Find.there | apply FindAll.cons)) (Pl.fold (p := p) (s := s) (k := k) (o := o) (rs := rs) (a := a2) (c := c2)) ?_
    exact X_round (i, a3, c3) (by show i ≤ rs.length; omega) (by show i < i + 1; omega) (by (repeat (first | exact Env.sub_nil _ | refine Env.sub_cons rfl ?_))) (by dsimp only; rw [show walkM P m (rs.drop i) = hrM P (walkM P m (rs.drop (i + 1))) rs[i].1 from by rw [e2, walkM_cons]]; ((try simp only [List.cons_append, List.nil_append]); repeat (first | exact ent_refl | refine ent_take (by repeat (first | exact Find.here | apply Find.there)) ?_ | refine ent_drop ?_)))
end Go.Proofs.Ytmndddegnfbaaaa.Sep
namespace Go.Proofs.Ytmndddegnfbaaaa.Sep
open Go.RowKit
set_option linter.unusedSimpArgs false
set_option linter.unusedVariables false
/-! lists of runs, held against each other -/
set_option maxHeartbeats 8000000
attribute [local irreducible] X XE XO XD XDi XDa PV RV DV pt base Spec Sl Mp Keeps Pg Kc Pgs Spc Ck XL XLi Pl
theorem same05_spec (A B : HP) (a b : Option Addr) (c d : Nat) (xs ys : List (Int × Int)) (hV : View A eRun a xs) (hW : View B eRun b ys) (hl : xs.length ≤ 4611686018427387904) :
    Spec Try.prog 17 [.slice a xs.length c, .slice b ys.length d] [A, B] (fun v L => v = .bool (decide (xs = ys)) ∧ L = [A, B]) := by
  refine Spec.intro (IsEnt.out) Try.func17 rfl Try.ntmps17 (by simp) (fun w0 F => ?_)
  simp only [envOf, List.zipIdx, List.map, List.cons_append, List.nil_append, Nat.zero_add, Nat.reduceAdd]
  repeat (first | refine Zq ?_ | refine Zs ?_ | refine ZT ?_ | refine ZF ?_ | refine Zc ?_ | refine XO_gU (hk := ?_))
  refine X_cond rfl (fun h => ?_) (fun h => ?_) <;> simp only [bne_iff_ne, bne_eq_false_iff_eq, ne_eq] at h
  · repeat (first | refine Zq ?_ | refine Zs ?_ | refine ZT ?_ | refine ZF ?_ | refine Zc ?_ | refine XO_gU (hk := ?_))
    refine XE_ret (.inl rfl) (tells_tmps rfl rfl) ⟨_, ⟨?_, rfl⟩, by ((try simp only [List.cons_append, List.nil_append]); repeat (first | exact ent_refl | refine ent_take (by repeat (first | exact Find.here | apply Find.there)) ?_ | refine ent_drop ?_))⟩
    exact congrArg Value.bool (decide_eq_false (fun e => h (by rw [e]))).symm
  have hlen : xs.length = ys.length := by omega
  repeat (first | refine Zq ?_ | refine Zs ?_ | refine ZT ?_ | refine ZF ?_ | refine Zc ?_ | refine XO_gU (hk := ?_))
  refine X_loop (ι := Nat) (fun i => i ≤ xs.length ∧ xs.take i = ys.take i) (fun i => [(0, .slice a xs.length c), (1, .slice b ys.length d), (5, .int .i64 (i : Int))]) (fun _ => A :: B :: F) (fun i => xs.length - i) 0 ⟨Nat.zero_le _, rfl⟩ ?_ (by ((try simp only [List.cons_append, List.nil_append]); repeat (first | exact ent_refl | refine ent_take (by repeat (first | exact Find.here | apply Find.there)) ?_ | refine ent_drop ?_))) ?_
  · (repeat (first | exact Env.sub_nil _ | refine Env.sub_cons rfl ?_))
  rintro i ⟨hi, he⟩
  dsimp only at hi he ⊢
  repeat (first | refine Zq ?_ | refine Zs ?_ | refine ZT ?_ | refine ZF ?_ | refine Zc ?_ | refine XO_gU (hk := ?_))
  refine X_cond rfl (fun hc => ?_) (fun hc => ?_) <;> simp only [decide_eq_true_eq, decide_eq_false_iff_not] at hc
  · have hil : i < xs.length := by omega
    have hil2 : i < ys.length := by omega
    have hg1 : xs[i]? = some xs[i] := List.getElem?_eq_getElem hil
    have hg2 : ys[i]? = some ys[i] := List.getElem?_eq_getElem hil2
    refine X_view (A := A) (by (repeat (first | exact Find.here | apply Find.there))) hV (by omega) ?_
    rintro b1 o1 rfl
    refine X_view (A := B) (by (repeat (first | exact Find.here | apply Find.there))) hW (by omega) ?_
    rintro b2 o2 rfl
    repeat (first | refine Zq ?_ | refine Zs ?_ | refine ZT ?_ | refine ZF ?_ | refine Zc ?_ | refine XO_gU (hk := ?_))
    repeat (first | refine XD_pick (h := ?_) | refine Dq ?_ | refine Ds ?_ | refine XDi_gF (h := ?_) | refine XDi_gU (h := ?_) | refine X_draws (h := ?_))
    refine Dp (pv_neRec [xs[i].1, xs[i].2] [ys[i].1, ys[i].2]) ?_
    (refine XD_end (h := ?_); repeat (first | refine Zq ?_ | refine Zs ?_ | refine ZT ?_ | refine ZF ?_ | refine Zc ?_ | refine XO_gU (hk := ?_)))
    have e1 : xs.take (i + 1) = xs.take i ++ [xs[i]] := List.take_succ_eq_append_getElem hil
    have e2 : ys.take (i + 1) = ys.take i ++ [ys[i]] := List.take_succ_eq_append_getElem hil2
    refine X_cond rfl (fun hn => ?_) (fun hn => ?_) <;> simp only [Bool.not_eq_true', Bool.not_eq_false', decide_eq_false_iff_not, decide_eq_true_eq, List.cons.injEq, and_true] at hn
    · repeat (first | refine Zq ?_ | refine Zs ?_ | refine ZT ?_ | refine ZF ?_ | refine Zc ?_ | refine XO_gU (hk := ?_))
      refine XE_ret (.inl rfl) (tells_tmps rfl rfl) ⟨_, ⟨?_, rfl⟩, by ((try simp only [List.cons_append, List.nil_append]); repeat (first | exact ent_refl | refine ent_take (by repeat (first | exact Find.here | apply Find.there)) ?_ | refine ent_drop ?_))⟩
      refine congrArg Value.bool (decide_eq_false (fun e => hn ?_)).symm
      subst e
      exact ⟨rfl, rfl⟩
    · repeat (first | refine Zq ?_ | refine Zs ?_ | refine ZT ?_ | refine ZF ?_ | refine Zc ?_ | refine XO_gU (hk := ?_))
      have e3 : xs[i] = ys[i] := Prod.ext hn.1 hn.2
      exact X_round (i + 1) ⟨by show i + 1 ≤ xs.length; omega, by rw [e1, e2, he, e3]⟩ (by show xs.length - (i + 1) < xs.length - i; omega) (by (repeat (first | exact Env.sub_nil _ | refine Env.sub_cons rfl ?_))) (by ((try simp only [List.cons_append, List.nil_append]); repeat (first | exact ent_refl | refine ent_take (by repeat (first | exact Find.here | apply Find.there)) ?_ | refine ent_drop ?_)))
  · obtain rfl : i = xs.length := by omega
    rw [List.take_length, hlen, List.take_length] at he
    repeat (first | refine Zq ?_ | refine Zs ?_ | refine ZT ?_ | refine ZF ?_ | refine Zc ?_ | refine XO_gU (hk := ?_))
    refine XE_ret (.inl rfl) (tells_tmps rfl rfl) ⟨_, ⟨?_, rfl⟩, by ((try simp only [List.cons_append, List.nil_append]); repeat (first | exact ent_refl | refine ent_take (by repeat (first | exact Find.here | apply Find.there)) ?_ | refine ent_drop ?_))⟩
    exact congrArg Value.bool (decide_eq_true he).symm
end Go.Proofs.Ytmndddegnfbaaaa.Sep
namespace Go.Proofs.Ytmndddegnfbaaaa.Sep
open Go.RowKit
set_option linter.unusedSimpArgs false
set_option linter.unusedVariables false
/-! the document's example of piles -/
def pk0 : Co := ⟨8, [(0, 8)], fun _ => [], 0⟩
def pk1 : Co := (getC pk0 1).1
def pk2 : Co := (getC pk1 2).1
theorem pkf1 : rnd 1 = 1 ∧ rnd 2 = 2 := by decide
theorem pkf2 : (getC pk0 1).2.1 = 0 ∧ (getC pk0 1).2.2 = 0 ∧ pk1.P = 8 := by decide +kernel
theorem pkf3 : (getC pk1 2).2.1 = 1 ∧ (getC pk1 2).2.2 = 0 ∧ pk2.P = 8 := by decide +kernel
set_option maxHeartbeats 8000000
attribute [local irreducible] X XE XO XD XDi XDa PV RV DV pt base Spec Sl Mp Keeps Pg Kc Pgs Spc Ck XL XLi Pl
theorem awake14_spec : Spec Try.prog 11 [] [] isTrue := by
  refine Spec.intro (IsEnt.out) Try.func11 rfl Try.ntmps11 (by simp) (fun w0 F => ?_)
  simp only [envOf, List.zipIdx, List.map, List.cons_append, List.nil_append, Nat.zero_add, Nat.reduceAdd]
  have hk0 : KInv pk0 (⟨fun _ => 0, 0⟩ : Mm).f (plH 0 7 0 [] ++ []) := knew 8 _
  have hb1 : ¬ bad 1 0 := by decide
  have hb2 : ¬ bad 2 0 := by decide
  repeat (first | refine Zq ?_ | refine Zs ?_ | refine ZT ?_ | refine ZF ?_ | refine Zc ?_ | refine XO_gU (hk := ?_))
  refine XO_call (knew_spec 8) (hk := ?_)
  rintro _ _ ⟨s, sb, rfl, rfl⟩
  generalize hm0 : (⟨fun _ => 0, 0⟩ : Mm) = m0 at hk0 ⊢
  repeat (first | refine Zq ?_ | refine Zs ?_ | refine ZT ?_ | refine ZF ?_ | refine Zc ?_ | refine XO_gU (hk := ?_))
  refine XO_call (plnew_spec s 0 7) (hk := ?_)
  rintro _ _ ⟨p, rfl, rfl⟩
  repeat (first | refine Zq ?_ | refine Zs ?_ | refine ZT ?_ | refine ZF ?_ | refine Zc ?_ | refine XO_gU (hk := ?_))
  have hz1 : (getC pk0 (rnd 1)).2.2 = 0 := by rw [pkf1.1]; exact pkf2.2.1
  have s1 := ppush_ok p s sb (P := 8) (n := 1) hk0 rfl (by decide) hb1 hz1 (by simp)
  obtain ⟨hk1, -⟩ := ppush_inv (P := 8) (n := 1) hk0 rfl (by decide) hb1 hz1
  rw [pkf1.1, pkf2.1] at s1 hk1
  refine XO_call s1 (hk := ?_)
  rintro _ _ ⟨rfl, rfl⟩
  generalize pushM _ _ _ _ _ _ _ = m1 at hk1 ⊢
  repeat (first | refine Zq ?_ | refine Zs ?_ | refine ZT ?_ | refine ZF ?_ | refine Zc ?_ | refine XO_gU (hk := ?_))
  have hz2 : (getC pk1 (rnd 2)).2.2 = 0 := by rw [pkf1.2]; exact pkf3.2.1
  have s2 := ppush_ok p s sb (C := pk1) (P := 8) (n := 2) hk1 pkf2.2.2 (by decide) hb2 hz2 (by simp)
  obtain ⟨hk2, -⟩ := ppush_inv (C := pk1) (P := 8) (n := 2) hk1 pkf2.2.2 (by decide) hb2 hz2
  rw [pkf1.2, pkf3.1] at s2 hk2
  refine XO_call s2 (hk := ?_)
  rintro _ _ ⟨rfl, rfl⟩
  generalize pushM _ _ _ _ _ _ _ = m2 at hk2 ⊢
  repeat (first | refine Zq ?_ | refine Zs ?_ | refine ZT ?_ | refine ZF ?_ | refine Zc ?_ | refine XO_gU (hk := ?_))
  refine XO_call (pwalk_spec p s sb (C := pk2) hk2 pkf3.2.2 (by simp)) (hk := ?_)
  rintro _ _ ⟨wa, wc, rfl, rfl⟩
  have hk3 : KInv pk2 (walkM 8 m2 ([] ++ [(0, 1)] ++ [(1, 2)])).f (plH 0 7 0 ([(0, 1)] ++ [(1, 2)]) ++ []) := by rw [walkM_f]; exact hk2
  generalize walkM _ _ _ = m3 at hk3 ⊢
  repeat (first | refine Zq ?_ | refine Zs ?_ | refine ZT ?_ | refine ZF ?_ | refine Zc ?_ | refine XO_gU (hk := ?_))
  refine XO_call (ppop_ok p s sb (C := pk2) hk3 pkf3.2.2 (by simp)) (hk := ?_)
  rintro _ _ ⟨rfl, rfl⟩
  repeat (first | refine Zq ?_ | refine Zs ?_ | refine ZT ?_ | refine ZF ?_ | refine Zc ?_ | refine XO_gU (hk := ?_))
  refine XO_call (ptop_spec p s 0 7 [(0, 1)] (by simp)) (hk := ?_)
  rintro _ _ ⟨rfl, rfl⟩
  repeat (first | refine Zq ?_ | refine Zs ?_ | refine ZT ?_ | refine ZF ?_ | refine Zc ?_ | refine XO_gU (hk := ?_))
  refine XO_dv (dv_alloc (row := [.int .i64 0, .int .i64 0])) (hk := ?_)
  rintro _ _ ⟨rb, rfl, rfl⟩
  refine XO_dv0 (dv_storeW (vs := [.int .i64 0, .int .i64 1])) (hk := ?_)
  rintro _ _ rfl
  repeat (first | refine Zq ?_ | refine Zs ?_ | refine ZT ?_ | refine ZF ?_ | refine Zc ?_ | refine XO_gU (hk := ?_))
  refine XO_lit (E' := eRun) [(1, 2), (0, 1)] (hk := ?_)
  intro lb
  repeat (first | refine Zq ?_ | refine Zs ?_ | refine ZT ?_ | refine ZF ?_ | refine Zc ?_ | refine XO_gU (hk := ?_))
  refine XO_call (same05_spec (Sl eRun wa wc (([] : List (Int × Int)) ++ [(0, 1)] ++ [(1, 2)]).reverse) (Sl eRun (some ⟨lb, 0, none⟩) [((1 : Int), (2 : Int)), (0, 1)].length [(1, 2), (0, 1)]) wa (some ⟨lb, 0, none⟩) wc [((1 : Int), (2 : Int)), (0, 1)].length (([] : List (Int × Int)) ++ [(0, 1)] ++ [(1, 2)]).reverse [(1, 2), (0, 1)] Sl.view Sl.view (by decide)) (hk := ?_)
  rintro _ _ ⟨rfl, rfl⟩
  repeat (first | refine Zq ?_ | refine Zs ?_ | refine ZT ?_ | refine ZF ?_ | refine Zc ?_ | refine XO_gU (hk := ?_))
  refine XO_pv (pv_eqRec [0, 1] [0, 1]) (hk := ?_)
  repeat (first | refine Zq ?_ | refine Zs ?_ | refine ZT ?_ | refine ZF ?_ | refine Zc ?_ | refine XO_gU (hk := ?_))
  refine XO_call (plen_spec p s 0 7 [(0, 1)]) (hk := ?_)
  rintro _ _ ⟨rfl, rfl⟩
  repeat (first | refine Zq ?_ | refine Zs ?_ | refine ZT ?_ | refine ZF ?_ | refine Zc ?_ | refine XO_gU (hk := ?_))
  refine XO_call (plpages_spec p s 0 7 [(0, 1)] (by simp) (by intro r hr; simp at hr; subst hr; decide)) (hk := ?_)
  rintro _ _ ⟨rfl, rfl⟩
  repeat (first | refine Zq ?_ | refine Zs ?_ | refine ZT ?_ | refine ZF ?_ | refine Zc ?_ | refine XO_gU (hk := ?_))
  refine XE_ret (.inl rfl) (tells_tmps rfl rfl) ⟨_, ⟨rfl, rfl⟩, by ((try simp only [List.cons_append, List.nil_append]); repeat (first | exact ent_refl | refine ent_take (by repeat (first | exact Find.here | apply Find.there)) ?_ | refine ent_drop ?_))⟩
end Go.Proofs.Ytmndddegnfbaaaa.Sep
namespace Go.Proofs.Ytmndddegnfbaaaa.Sep
open Go.RowKit
set_option linter.unusedSimpArgs false
set_option linter.unusedVariables false
/-! pushes, one behind the other -/
theorem rnd70 {x : Int} (h0 : 0 ≤ x) : 1 ≤ rnd (x % 70 + 1) ∧ rnd (x % 70 + 1) ≤ 70 ∧ ¬ bad (x % 70 + 1) 0 ∧ ¬ bad (x % 70 + 1) 1 := by
  obtain ⟨r1, r2, -, -, r5, r6⟩ := rnd_ok (p := x % 70 + 1) (by omega) (by omega)
  refine ⟨by omega, ?_, by unfold bad; omega, by unfold bad; omega⟩
  by_cases h64 : 64 < x % 70 + 1
  · have := r5 h64; omega
  · have := r6 (by omega); omega
/-- What many pushes, one behind the other, come to. -/
structure LineP (C : Co) (at_ B : Int) : Prop where
  fr : C.fr = [(at_, 2000 - at_)]
  ks : C.ks = fun _ => []
  a0 : 0 ≤ at_
  a1 : at_ ≤ B
theorem push_line (p s sb : Nat) {C : Co} {m : Mm} {rs : List (Int × Int)} {oth : List (Int × Hd)} {at_ B w : Int} {k o n : Int} (hb : ¬ bad n k) (hw : 1 ≤ rnd n ∧ rnd n ≤ w) (ho : 0 ≤ o ∧ o < 18446744073709551616) (hK : KInv C m.f (plH k o 0 rs ++ oth)) (hP : C.P = 2000) (hL : LineP C at_ B) (hB : B + w < 2000) (hl : rs.length ≤ 1048576) :
    ∃ (C' : Co) (m' : Mm), Spec Try.prog 14 [.pointer (some ⟨p, 0, none⟩), .int .i64 n] [Pl p s k o rs, Ck s sb C, Spc sb 2000 m]
      (fun v L => v = .tuple #[.int .i64 at_, .int .i64 (rnd n), .int .i64 0] ∧ L = [Pl p s k o (rs ++ [(at_, rnd n)]), Ck s sb C', Spc sb 2000 m']) ∧
      KInv C' m'.f (plH k o 0 (rs ++ [(at_, rnd n)]) ++ oth) ∧ C'.P = 2000 ∧ LineP C' (at_ + rnd n) (B + w) := by
  obtain ⟨w1, w2⟩ := hw
  obtain ⟨g1, g2, g3, -⟩ := get_line (w := rnd n) hL.fr hL.ks w1 (by have := hL.a1; omega)
  have hz : (getC C (rnd n)).2.2 = 0 := by rw [g1]
  have s1 := ppush_ok p s sb hK hP ho hb hz hl
  obtain ⟨i1, i2⟩ := ppush_inv hK hP ho hb hz
  rw [g1] at s1 i1
  refine ⟨_, _, s1, i1, i2, ⟨?_, g3, by have := hL.a0; omega, by have := hL.a1; omega⟩⟩
  rw [g2, show 2000 - at_ - rnd n = 2000 - (at_ + rnd n) from by omega]
theorem line0 : LineP ⟨2000, [(0, 2000)], fun _ => [], 0⟩ 0 0 := ⟨rfl, rfl, Int.le_refl _, Int.le_refl _⟩
end Go.Proofs.Ytmndddegnfbaaaa.Sep
namespace Go.Proofs.Ytmndddegnfbaaaa.Sep
open Go.ChangeShapes Go.WideShapes Go.ChangeAt Go.RowKit Go.Deep
set_option linter.unusedSimpArgs false
set_option linter.unusedVariables false
/-! arguments that are slices of bools, or of flat structs with bools among their fields -/
/-- What a flat type's cells are. -/
def FlatP (P : Program) (t : TypeId) (n : Nat) (φ : List Value → Prop) : Prop :=
  P.cellsOf t = n ∧ ∀ (H : Type) (enc : TypeId × Value → H) (W : World) (base : Nat) (sp : Nat → Bool) (held : Bool) (fuel : Nat) (cs : List Value) (x : DataW H × List MemPlace), DataW.trod enc P W base sp held fuel t cs = some x → φ cs
theorem flatP_int {P : Program} {t : TypeId} {k : IntKind} (h : P.underlying t = some (.int k)) (hc : P.cellsOf t = 1) : FlatP P t 1 (fun cs => ∃ n, (Lit.int k n).wf = true ∧ cs = [.int k n]) := by
  refine ⟨hc, fun H enc W base sp held fuel cs x ht => ?_⟩
  obtain ⟨n, rfl, _, hw⟩ := DataW.trod_int h ht
  exact ⟨n, hw, rfl⟩
theorem flatP_bool {P : Program} {t : TypeId} (h : P.underlying t = some .bool) (hc : P.cellsOf t = 1) : FlatP P t 1 (fun cs => ∃ b, cs = [.bool b]) := by
  refine ⟨hc, fun H enc W base sp held fuel cs x ht => ?_⟩
  obtain ⟨b, rfl, _⟩ := DataW.trod_bool h ht
  exact ⟨b, rfl⟩
def Parts : List Value → List (Nat × (List Value → Prop)) → Prop
  | cs, [] => cs = []
  | cs, q :: l => q.2 (cs.take q.1) ∧ Parts (cs.drop q.1) l
def FlatPs (P : Program) : Nat → List Field → List (Nat × (List Value → Prop)) → Prop
  | _, [], [] => True
  | o, f :: fs, q :: qs => f.offset = o ∧ FlatP P f.type q.1 q.2 ∧ FlatPs P (o + q.1) fs qs
  | _, _, _ => False
def sumN (qs : List (Nat × (List Value → Prop))) : Nat := (qs.map (·.1)).sum
theorem flatP_fields {P : Program} {H : Type} {enc : TypeId × Value → H} {W : World} {base : Nat} {sp : Nat → Bool} {held : Bool} {n : Nat} {cs : List Value} {ys : List (DataW H × List MemPlace)} : ∀ (fs : List Field) (qs : List (Nat × (List Value → Prop))) (o i : Nat), FlatPs P o fs qs →
    (∀ j f, fs[j]? = some f → DataW.trod enc P W base sp held n f.type ((cs.drop f.offset).take (P.cellsOf f.type)) = ys[i + j]?) → i + fs.length ≤ ys.length → cs.length = o + sumN qs → Parts (cs.drop o) qs
  | [], [], o, i, _, _, _, hl => by show cs.drop o = []; rw [List.drop_of_length_le (by simp [sumN] at hl; omega)]
  | [], _ :: _, _, _, h, _, _, _ => by cases h
  | _ :: _, [], _, _, h, _, _, _ => by cases h
  | f :: fs, q :: qs, o, i, h, hg, hy, hl => by
    obtain ⟨h1, h2, h3⟩ := h
    have hg0 := hg 0 f rfl
    simp only [List.length_cons] at hy
    rw [List.getElem?_eq_getElem (show i + 0 < ys.length by omega)] at hg0
    have hc1 := h2.2 _ _ _ _ _ _ _ _ _ hg0
    rw [h1, h2.1] at hc1
    refine ⟨hc1, ?_⟩
    rw [List.drop_drop]
    exact flatP_fields fs qs (o + q.1) (i + 1) h3 (fun j g hj => by
      have := hg (j + 1) g (by simpa using hj)
      rwa [show i + (j + 1) = i + 1 + j from by omega] at this) (by omega) (by simp [sumN] at hl ⊢; omega)
theorem flatP_struct {P : Program} {t : TypeId} {fs : Array Field} (ht : P.underlying t = some (.struct fs)) (qs : List (Nat × (List Value → Prop))) (hf : FlatPs P 0 fs.toList qs) (hc : P.cellsOf t = sumN qs) : FlatP P t (sumN qs) (fun cs => Parts cs qs) := by
  refine ⟨hc, fun H enc W base sp held fuel cs x h => ?_⟩
  obtain ⟨ys, n, _, _, hl, hyl, hg⟩ := DataW.trod_struct ht h
  have := flatP_fields (ys := ys) fs.toList qs 0 0 hf (fun j f hj => by
    rw [Nat.zero_add]; exact hg j f (by simpa using hj)) (by simp; omega) (by omega)
  simpa using this
section
variable {H : Type} {enc : TypeId × Value → H} {P : Program} {W : World} {b0 : Nat} {sp : Nat → Bool} {held : Bool}
theorem open_flatV {α : Type} (E' : E α) (ok : α → Prop) {t e : TypeId} {n : Nat} {φ : List Value → Prop} {v : Value} {d : DataW H} {p : List MemPlace} {r : Reach} (ht : P.underlying t = some (.slice e)) (hF : FlatP P e n φ) (hn : E'.sz = n) (hφ : ∀ cs, φ cs → ∃ y, ok y ∧ cs = E'.cells y) (hv : Value.okWide P W r b0 t v)
    (h : DataW.Trod enc P W 0 sp held t v d p) : ∃ (a : Option Addr) (c : Nat) (xs : List α), v = .slice a xs.length c ∧ View (base W) E' a xs ∧ (∀ x ∈ xs, ok x) ∧ xs.length ≤ maxLen := by
  subst hn
  obtain ⟨a, len, cap, rfl⟩ := okWide_slice ht hv
  obtain ⟨fuel, hf⟩ := h
  rcases open_slice ht hf with ⟨h1, _⟩ | ⟨ad, l, c, m, n, D, Pl, h1, _, hl, hm, hmm, _, hi⟩
  · obtain ⟨rfl, rfl, rfl⟩ : a = none ∧ len = 0 ∧ cap = 0 := by simpa [Value.cells] using h1
    exact ⟨none, 0, [], rfl, fun _ _ => .inl rfl, (fun n h => by cases h), by simp⟩
  · obtain ⟨rfl, rfl, rfl⟩ : a = some ad ∧ len = l ∧ cap = c := by simpa [Value.cells] using h1
    have hle : len ≤ m := by rw [hmm]; split <;> omega
    have each : ∀ i, i < len → ∃ x : α, ok x ∧ ∀ j v, (E'.cells x)[j]? = some v → W.cell? (ad.add (i * E'.sz + j)) = some v := by
      intro i him
      obtain ⟨cs', hc, ht'⟩ := hi i (by omega)
      rw [hF.1] at hc
      obtain ⟨_, hcl, hat⟩ := World.cells?_some hc
      obtain ⟨y, hw, rfl⟩ := hφ _ (hF.2 _ _ _ _ _ _ _ _ _ ht')
      refine ⟨y, hw, fun j v hj => ?_⟩
      have hjl : j < E'.sz := by
        have := (List.getElem?_eq_some_iff.1 hj).1
        rw [E'.len] at this; exact this
      rw [← Go.Deep.add_add, hat j hjl]; exact hj
    rcases Nat.eq_zero_or_pos len with h0 | h0
    · subst h0
      exact ⟨some ad, cap, [], rfl, fun _ _ => .inl rfl, (fun n h => by cases h), by simp⟩
    obtain ⟨x0, _⟩ := each 0 h0
    let f : Nat → α := fun i => if h : i < len then Classical.choose (each i h) else x0
    have hfi : ∀ i (h : i < len), ok (f i) ∧ ∀ j v, (E'.cells (f i))[j]? = some v → W.cell? (ad.add (i * E'.sz + j)) = some v := by
      intro i h
      simp only [f, dif_pos h]
      exact Classical.choose_spec (each i h)
    refine ⟨some ad, cap, (List.range len).map f, by simp, view_of fun i x hx j v hj => ?_, ?_, by simp; omega⟩
    · have hi : i < len := by
        have := (List.getElem?_eq_some_iff.1 hx).1
        simpa using this
      have : f i = x := by simpa [hi] using hx
      subst this
      exact (hfi i hi).2 j v hj
    · intro x hx
      obtain ⟨i, hi, rfl⟩ := List.mem_map.1 hx
      exact (hfi i (List.mem_range.1 hi)).1
theorem open_bl {t e : TypeId} {v : Value} {d : DataW H} {p : List MemPlace} {r : Reach} (ht : P.underlying t = some (.slice e)) (he : P.underlying e = some .bool) (hc : P.cellsOf e = 1) (hv : Value.okWide P W r b0 t v)
    (h : DataW.Trod enc P W 0 sp held t v d p) : ∃ (a : Option Addr) (c : Nat) (xs : List Bool), v = .slice a xs.length c ∧ View (base W) eB a xs ∧ (∀ x ∈ xs, True) ∧ xs.length ≤ maxLen :=
  open_flatV eB (fun _ => True) ht (flatP_bool he hc) rfl (fun cs ⟨b, hb⟩ => ⟨b, trivial, hb⟩) hv h
end
end Go.Proofs.Ytmndddegnfbaaaa.Sep
namespace Go.Proofs.Ytmndddegnfbaaaa.Sep
open Go.RowKit
set_option linter.unusedSimpArgs false
set_option linter.unusedVariables false
/-! what lies behind a page is free: there is room -/
theorem cnt_lo {P x : Int} : ∀ {l : List (Int × Int)} {lo : Int}, RightFrom P lo l → x < lo → cnt x l = 0
  | [], _, _, _ => rfl
  | r :: l, lo, ⟨h1, h2, h3, h4⟩, hx => by
    have := cnt_lo h4 (x := x) (by omega)
    have h0 : ind x r = 0 := by unfold ind; rw [if_neg (by omega)]
    simp only [cnt]; omega
/-- Pages that are all free lie in one run. -/
theorem span {P a b : Int} (hab : a < b) : ∀ {l : List (Int × Int)} {lo : Int}, RightFrom P lo l → (∀ x, a ≤ x → x < b → 1 ≤ cnt x l) → ∃ r ∈ l, r.1 ≤ a ∧ b ≤ r.1 + r.2
  | [], _, _, h => by have := h a (Int.le_refl _) hab; simp [cnt] at this
  | r :: l, lo, ⟨h1, h2, h3, h4⟩, h => by
    by_cases ha : r.1 + r.2 ≤ a
    · obtain ⟨q, hq, h5⟩ := span hab h4 (fun x hx hxb => by
        have := h x hx hxb
        have h0 : ind x r = 0 := by unfold ind; rw [if_neg (by omega)]
        simp only [cnt] at this; omega)
      exact ⟨q, by simp [hq], h5⟩
    · have h6 : r.1 ≤ a := by
        by_cases h7 : r.1 ≤ a
        · exact h7
        · exfalso
          have h8 := h a (Int.le_refl _) hab
          have h0 : ind a r = 0 := by unfold ind; rw [if_neg (by omega)]
          have := cnt_lo h4 (x := a) (by omega)
          simp only [cnt] at h8; omega
      refine ⟨r, by simp, h6, ?_⟩
      by_cases h7 : b ≤ r.1 + r.2
      · exact h7
      · exfalso
        have h8 := h (r.1 + r.2) (by omega) (by omega)
        have h0 : ind (r.1 + r.2) r = 0 := by unfold ind; rw [if_neg (by omega)]
        have := cnt_lo h4 (x := r.1 + r.2) (by omega)
        simp only [cnt] at h8; omega
/-- Ahead of a run no page is free. -/
theorem start0 {P : Int} : ∀ {l : List (Int × Int)} {lo : Int}, RightFrom P lo l → ∀ r ∈ l, cnt (r.1 - 1) l = 0
  | [], _, _, r, hr => by cases hr
  | q :: l, lo, ⟨h1, h2, h3, h4⟩, r, hr => by
    rcases List.mem_cons.1 hr with rfl | hr
    · have h0 : ind (r.1 - 1) r = 0 := by unfold ind; rw [if_neg (by omega)]
      have := cnt_lo h4 (x := r.1 - 1) (by omega)
      simp only [cnt]; omega
    · have hm := rf_mem h4 r hr
      have h0 : ind (r.1 - 1) q = 0 := by unfold ind; rw [if_neg (by omega)]
      have := start0 h4 r hr
      simp only [cnt]; omega
def HW (C : Co) (B : Int) : Prop := ∀ x, B ≤ x → x < C.P → 1 ≤ cnt x C.fr
theorem HW.up {C : Co} {B B' : Int} (h : HW C B) (hB : B ≤ B') : HW C B' := fun x h1 h2 => h x (by omega) h2
theorem hw_new (P : Int) (k : Nat → List Int) (t : Int) : HW ⟨P, [(0, P)], k, t⟩ 0 := fun x h1 h2 => by
  show 1 ≤ cnt x [(0, P)]
  have h2 : x < P := h2
  have h0 : ind x (0, P) = 1 := by unfold ind; rw [if_pos]; simp only; omega
  simp only [cnt]; omega
theorem hw_trim {C : Co} {m : Int → Int} {got : List (Int × Hd)} {B : Int} (h : KInv C m got) (hw : HW C B) : HW (trimC C) B := fun x h1 h2 => by
  obtain ⟨-, g2, -⟩ := trim_inv h.ci h.le
  have h3 : cC x (trimC C) = cnt x (trimC C).fr := by
    show cnt x (trimC C).fr + cnt x (kall (fun _ => []) 7) = _
    rw [kall_nil]; simp [cnt]
  have h4 := g2 x
  rw [h3] at h4
  have h5 := hw x h1 h2
  have h6 := cnt_nn x (kall C.ks 7)
  unfold cC at h4
  omega
theorem hw_put {C : Co} {m : Int → Int} {l1 l2 : List (Int × Hd)} {p B : Int} {hd : Hd} (h : KInv C m (l1 ++ (p, hd) :: l2)) (hw : HW C B) : HW (putC C (p, hd.pages)) B := by
  have hr : RunOk C.P (p, hd.pages) := h.run (p, hd) (by simp)
  unfold putC
  split
  · exact hw
  · have hd' : ∀ x, cnt x C.fr + ind x (p, hd.pages) ≤ 1 := fun x => by
      have h1 := h.part x
      have h2 := part_le1 (x := x) (P := C.P)
      rw [gr_app, cnt_append] at h1
      have h3 := cnt_nn x (gr l1)
      have h4 : cnt x (gr ((p, hd) :: l2)) = ind x (p, hd.pages) + cnt x (gr l2) := rfl
      have h5 := cnt_nn x (gr l2)
      have h6 := cnt_nn x (kall C.ks 7)
      unfold cC at h1
      omega
    obtain ⟨g1, -⟩ := give_inv h.ci.ok hr hd'
    intro x h1 h2
    rw [g1 x]
    have := hw x h1 h2
    have := ind_nn x (p, hd.pages)
    omega
theorem take_hw {C : Co} {n B : Int} (hC : CoOk C) (hw : HW C B) (h0 : 0 ≤ B) (hn : 1 ≤ n) : HW (takeC C n).1 (B + n) := by
  unfold takeC
  rw [if_neg (by omega)]
  cases ht : takeI C.fr n with
  | none => exact hw.up (by omega)
  | some q =>
    obtain ⟨p, ys⟩ := q
    obtain ⟨g1, g2, g3, g4, g5, g6⟩ := takeI_right hC.right ht
    have hp : ∃ r ∈ C.fr, p = r.1 := by
      unfold takeI at ht
      cases hb : bestU C.fr n C.fr.length with
      | none => rw [hb] at ht; cases ht
      | some i =>
        rw [hb, Option.map_some, Option.some.injEq] at ht
        have hi := bestU_lt hb
        have hg : C.fr.getD i (0, 0) = C.fr[i] := by simp [List.getD, hi]
        have hp : p = (C.fr.getD i (0, 0)).1 := by rw [takeAt] at ht; exact (Prod.mk.inj ht).1.symm
        rw [hg] at hp
        exact ⟨_, List.getElem_mem hi, hp⟩
    obtain ⟨r, hr, hp⟩ := hp
    have hs := start0 hC.right r hr
    have hle : p ≤ B := by
      by_cases hle : p ≤ B
      · exact hle
      · exfalso
        have := hw (r.1 - 1) (by omega) (by omega)
        omega
    intro x h1 h2
    have h3 := g5 x
    have h4 : ind x (p, n) = 0 := by unfold ind; rw [if_neg]; simp only; omega
    have h5 := hw x (by omega) h2
    show 1 ≤ cnt x ys
    omega
theorem hw_get {C : Co} {m : Int → Int} {got : List (Int × Hd)} {B n : Int} (h : KInv C m got) (hw : HW C B) (h0 : 0 ≤ B) (hn : 1 ≤ n) (hB : B + n ≤ C.P) : (getC C n).2.2 = 0 ∧ HW (getC C n).1 (B + n) := by
  constructor
  · by_cases hz : (getC C n).2.2 = 0
    · exact hz
    · exfalso
      obtain ⟨-, -, h3⟩ := get_full h.ci.ok hn hz
      have ht := hw_trim h hw
      have hr := (ktrim h).ci.ok.right
      obtain ⟨r, hr1, hr2, hr3⟩ := span (a := B) (b := C.P) (by omega) hr (fun x h1 h2 => ht x h1 h2)
      have := h3 r hr1
      omega
  · unfold getC
    split
    · exact hw.up (by omega)
    · split
      · split
        · exact take_hw (ktrim h).ci.ok (hw_trim h hw) h0 hn
        · exact (hw_trim h hw).up (by omega)
      · exact take_hw h.ci.ok hw h0 hn
theorem hw_cut {k o P : Int} {oth : List (Int × Hd)} : ∀ (r2 : List (Int × Int)) (rs : List (Int × Int)) (C : Co) (m : Mm) (B : Int), KInv C m.f (plH k o 0 (rs ++ r2) ++ oth) → C.P = P → (rs ++ r2).length ≤ 1048576 → HW C B → HW (cutC C r2) B := by
  intro r2
  induction r2 with
  | nil => intro rs C m B _ _ _ hw; exact hw
  | cons r r2 ih =>
    intro rs C m B hK hP hl hw
    have e : rs ++ r :: r2 = (rs ++ [r]) ++ r2 := by simp
    rw [e] at hK hl
    have h1 := ih (rs ++ [r]) C m B hK hP hl hw
    obtain ⟨h2, h3⟩ := pcut_ok 0 0 0 (P := P) (k := k) (o := o) (oth := oth) (by have := hK.ci.ok.p2; omega) r2 (rs ++ [r]) C m hK hP hl
    rw [cutC_cons]
    exact hw_put (p := r.1) (hd := ⟨r.2, k, o, lastL 0 rs⟩) (plH_top (pg := r.1) (n := r.2) h2) h1
end Go.Proofs.Ytmndddegnfbaaaa.Sep
