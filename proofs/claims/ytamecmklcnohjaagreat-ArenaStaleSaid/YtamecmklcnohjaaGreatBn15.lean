import Derived.Test.YtamecmklcnohjaaGreatBn14
/- What the laws share: a separation logic over the model, and what the program's functions do, by it. Part 15 of 15: Do Did AllP. -/
namespace Go.Proofs.YtamecmklcnohjaaGreat.Sep
open Go.RowKit
set_option linter.unusedSimpArgs false
set_option linter.unusedVariables false
abbrev noStr : ByteArray := ⟨#[]⟩
inductive Did (σ : Int → Sh) (z : Ar) (y : A18) (h : Int) : Ar → (Int → Sh) → Int → ByteArray → Int → Int → Prop
  | createNo : y.d = 0 → h ≠ 0 → z.reg.get h = none → Did σ z y h z σ 0 noStr 0 2
  | create (b : Nat) : y.d = 0 → (h = 0 ∨ (z.reg.get h).isSome = true) → Did σ z y h (z.created h b) σ z.reg.addH noStr 0 0
  | allocNo : y.d = 1 → z.reg.get h = none → Did σ z y h z σ 0 noStr 0 2
  | alloc (i b : Nat) (S : Sh) (C' : Co) (m' : Mm) (S' : Sh) (at_ e : Int) : y.d = 1 → z.M[i]? = some (b, h, S) → AR z.P z.C z.m S h y.sz y.al C' m' S' at_ e → Did σ z y h (z.alloced i b h y.sz C' m' S' at_ e) σ (if e = 0 then z.obj.addH else 0) noStr 0 e
  | readNo : y.d = 2 → rdE z h y.sz y.al ≠ 0 → Did σ z y h z σ 0 noStr 0 (rdE z h y.sz y.al)
  | read : y.d = 2 → rdE z h y.sz y.al = 0 → Did σ z y h { z with m := ldM z.m (inH z h y.sz y.al).1 y.al } σ 0 ⟨(asB (rdM z.m.f (inH z h y.sz y.al).1 y.al.toNat)).toArray⟩ 0 0
  | writeNo : y.d = 3 → (inH z h y.sz y.bs.length).2 ≠ 0 → Did σ z y h z σ 0 noStr 0 (inH z h y.sz y.bs.length).2
  | write : y.d = 3 → (inH z h y.sz y.bs.length).2 = 0 → Did σ z y h { z with m := stM z.m (inH z h y.sz y.bs.length).1 y.bs } σ 0 noStr 0 0
  | markNo : y.d = 4 → z.reg.get h = none → Did σ z y h z σ 0 noStr 0 2
  | mark (i b : Nat) (S : Sh) : y.d = 4 → z.M[i]? = some (b, h, S) → Did σ z y h (z.marked h S) (putσ σ z.mar.addH S) z.mar.addH noStr 0 0
  | rewindNo : y.d = 5 → z.mar.get h = none → Did σ z y h z σ 0 noStr 0 2
  | rewind (k : MkT) (i b : Nat) (S : Sh) : y.d = 5 → z.mar.get h = some k → (b, k.of_, S) ∈ z.M → (z.giveA k.of_ k.tr.toNat).M[i]? = some (b, k.of_, S) → Did σ z y h ((z.giveA k.of_ k.tr.toNat).setS i b k.of_ S (σ h) k.mc k.ml k.at_) σ 0 noStr 0 0
  | resetNo : y.d = 6 → z.reg.get h = none → Did σ z y h z σ 0 noStr 0 2
  | reset (i b : Nat) (S : Sh) : y.d = 6 → (b, h, S) ∈ z.M → (z.giveA h 0).M[i]? = some (b, h, S) → Did σ z y h ((z.giveA h 0).setS i b h S emptySh 0 0 0) σ 0 noStr 0 0
  | freeNo : y.d = 7 → z.reg.get h = none → Did σ z y h z σ 0 noStr 0 2
  | free : y.d = 7 → (z.reg.get h).isSome = true → Did σ z y h (z.freeR h) σ 0 noStr 0 0
  | trim : 8 ≤ y.d → Did σ z y h { z with C := trimC z.C } σ 0 noStr (trimN z.C) 0
theorem pv_stringNil {P : Program} {e : Env} {ty S T el : TypeId} {x : Operand} [hs : TU P S (.slice el)] [ht : TU P T .string] [he : TU P el (.int .u8)] (hx : ev e x = some (.slice none 0 0) := by rfl) : PV P (.convert S T x) ty e (.string noStr) := fun tm w pos aft h => by
  simp [execOp, ev_sound h hx, convert, run_und hs.out, run_und ht.out, run_und he.out]
  rfl
theorem live_or {t : Tb (Option Nat)} (h : Int) : t.get h = none ∨ (t.get h).isSome = true := by
  cases t.get h with
  | none => exact .inl rfl
  | some v => exact .inr rfl
theorem AOk.regOf {N : Nat} {z : Ar} (hA : AOk N z) {h : Int} (hl : (z.reg.get h).isSome = true) : ∃ (i b : Nat) (S : Sh), z.M[i]? = some (b, h, S) := by
  obtain ⟨v, hv⟩ := Option.isSome_iff_exists.1 hl
  obtain ⟨i, b, S, _, hi⟩ := hA.live h v hv
  exact ⟨i, b, S, hi⟩
set_option maxHeartbeats 8000000
attribute [local irreducible] X XE XO XD XDi XDa PV RV DV pt base Spec Sl Mp Keeps Pg Kc
attribute [local irreducible] Pgs Spc Ck XL XLi Pl Rs Rg View Tbl Tre Ros Star RgOf Arn
theorem Arn.byt {x : ABl} {z : Ar} : ∀ H, Arn x z H → ∀ a, 0 ≤ z.m.f a ∧ z.m.f a ≤ 255 := by
  intro H h
  unfold Arn SLA arL at h
  obtain ⟨H1, H2, _, _, _, H3, H4, _, _, _, H5, H6, _, _, hs, _⟩ := h
  exact Spc.byt H5 hs
theorem do_spec (x : ABl) (z : Ar) {σ : Int → Sh} (hI : Inv σ z) {B : Nat} (hB : AB B z) (hN : 8 * B + 32 ≤ 100000) (A : HP) (ta : Option Addr) (tc : Nat) (told : List Int) (hV : View A (eI .u64) ta told) (hl : told.length ≤ 1000000) (ht : ∀ v ∈ told, 0 ≤ v ∧ v ≤ 18446744073709551615) (y : A18) {W : World} (ho : OkA18 W y) (hy : y.bs.length ≤ 100) :
    Spec Tryz.prog 40 [.pointer (some ⟨x.a, 0, none⟩), .slice ta told.length tc, .agg (eA18.cells y).toArray] [Arn x z, A, base W]
      (fun v L => ∃ z' σ' r s n e, v = .tuple #[.int .u64 r, .string s, .int .i64 n, .int .i64 e] ∧ L = [Arn x z', A, base W] ∧ Did σ z y (pickI told y) z' σ' r s n e) := by
  have hA := hB.ok (by omega)
  have hhb := pickI_bd ho ht
  have hd := ho.d
  have hsz := ho.sz
  have hal := ho.al
  refine Spec.intro (IsEnt.out) Tryz.func40 rfl Tryz.ntmps40 (by simp) (fun w0 F => ?_)
  simp only [envOf, List.zipIdx, List.map, List.cons_append, List.nil_append, Nat.zero_add, Nat.reduceAdd]
  (repeat refine Z ?_)
  refine XO_dv (dv_box (row := eA18.cells y)) (hk := ?_)
  rintro _ _ ⟨bx, rfl, rfl⟩
  (repeat refine Z ?_)
  refine XO_call (pick_spec A ta tc told y ho hV hl) (hk := ?_)
  rintro _ _ ⟨rfl, rfl⟩
  generalize pickI told y = h at hhb ⊢
  (repeat refine Z ?_)
  -- create
  refine X_cond rfl (fun hc => ?_) (fun hc0 => ?_)
  · have hc' : y.d = 0 := by simpa using hc
    by_cases hp : h = 0 ∨ (z.reg.get h).isSome = true
    · (repeat refine Z ?_)
      refine XO_call (ar_create x z hA (by omega) h hhb.1 hhb.2 hp) (hk := ?_)
      rintro _ _ ⟨b, rfl, rfl⟩
      (repeat refine Z ?_)
      refine XE_ret (.inl rfl) (tells_tmps rfl rfl) ⟨_, ⟨_, _, _, _, _, _, rfl, rfl, .create b hc' hp⟩, by exact EN⟩
    · have h1 : h ≠ 0 := fun e => hp (.inl e)
      have h2 : z.reg.get h = none := (live_or h).resolve_right (fun e => hp (.inr e))
      (repeat refine Z ?_)
      refine XO_call (ar_create_no x z hA h hhb.1 hhb.2 h1 h2) (hk := ?_)
      rintro _ _ ⟨rfl, rfl⟩
      (repeat refine Z ?_)
      refine XE_ret (.inl rfl) (tells_tmps rfl rfl) ⟨_, ⟨_, _, _, _, _, _, rfl, rfl, .createNo hc' h1 h2⟩, by exact EN⟩
  have hn0 : y.d ≠ 0 := by simpa using hc0
  (repeat refine Z ?_)
  -- alloc
  refine X_cond rfl (fun hc => ?_) (fun hc1 => ?_)
  · have hc' : y.d = 1 := by simpa using hc
    rcases live_or (t := z.reg) h with h2 | h2
    · (repeat refine Z ?_)
      refine XO_call (ar_alloc_no x z hA h y.sz y.al hhb.1 hhb.2 h2) (hk := ?_)
      rintro _ _ ⟨rfl, rfl⟩
      (repeat refine Z ?_)
      refine XE_ret (.inl rfl) (tells_tmps rfl rfl) ⟨_, ⟨_, _, _, _, _, _, rfl, rfl, .allocNo hc' h2⟩, by exact EN⟩
    · obtain ⟨i, b, S, hq⟩ := hA.regOf h2
      obtain ⟨C', m', S', at_, e, har⟩ := AR.ex z.P z.C z.m S h y.sz y.al
      (repeat refine Z ?_)
      refine XO_call (ar_alloc x z hA (by omega) hq y.sz y.al hsz.1 hsz.2 hal.1 hal.2 har) (hk := ?_)
      rintro _ _ ⟨rfl, rfl⟩
      (repeat refine Z ?_)
      refine XE_ret (.inl rfl) (tells_tmps rfl rfl) ⟨_, ⟨_, _, _, _, _, _, rfl, rfl, .alloc i b S C' m' S' at_ e hc' hq har⟩, by exact EN⟩
  have hn1 : y.d ≠ 1 := by simpa using hc1
  (repeat refine Z ?_)
  -- read
  refine X_cond rfl (fun hc => ?_) (fun hc2 => ?_)
  · have hc' : y.d = 2 := by simpa using hc
    by_cases he : rdE z h y.sz y.al = 0
    · refine X_fact (A := Arn x z) (by exact FDs) Arn.byt (fun hbt => ?_)
      have hBt : Byt (rdM z.m.f (inH z h y.sz y.al).1 y.al.toNat) := fun b hb => by
        unfold rdM at hb
        obtain ⟨j, _, rfl⟩ := List.mem_map.1 hb
        exact hbt _
      have hst : (asB (rdM z.m.f (inH z h y.sz y.al).1 y.al.toNat)).map (fun b => (b.toNat : Int)) = (rdM z.m.f (inH z h y.sz y.al).1 y.al.toNat).take y.al.toNat := by rw [asB_back hBt, List.take_of_length_le (by rw [rdM_len]; exact Nat.le_refl _)]
      (repeat refine Z ?_)
      refine XO_call (ar_read_ok x z hA h y.sz y.al hhb.1 hhb.2 hsz.1 hsz.2 hal.1 hal.2 he) (hk := ?_)
      rintro _ _ ⟨ob, rfl, rfl⟩
      (repeat refine Z ?_)
      (repeat refine ZD ?_)
      refine XDi_rv (rv_stringOf (ns := rdM z.m.f (inH z h y.sz y.al).1 y.al.toNat) (asB (rdM z.m.f (inH z h y.sz y.al).1 y.al.toNat)) rfl (Sl.view (c := y.al.toNat)) (by rw [rdM_len]; exact Nat.le_refl _) hst) (h := ?_)
      (repeat refine ZD ?_)
      refine XD_one (h := ?_)
      refine XDa_dvA (dv_of_rv (rv_of_pv pv_assign)) (hk := ?_)
      rintro _ _ ⟨rfl, rfl⟩
      refine ⟨by repeat (first | exact keeps_nil | exact keeps_fnil | refine keeps_skip (h := ?_) | refine keeps_takeQ (h := ?_) | refine keeps_takeA (hv := rv_stringOf (ns := rdM z.m.f (inH z h y.sz y.al).1 y.al.toNat) (asB (rdM z.m.f (inH z h y.sz y.al).1 y.al.toNat)) rfl (Sl.view (c := y.al.toNat)) (by rw [rdM_len]; exact Nat.le_refl _) hst) (h := ?_)), ?_⟩
      refine XD_one (h := ?_)
      refine XDa_dvA (dv_of_rv (rv_of_pv pv_assign)) (hk := ?_)
      rintro _ _ ⟨rfl, rfl⟩
      refine ⟨by repeat (first | exact keeps_nil | exact keeps_fnil | refine keeps_skip (h := ?_) | refine keeps_takeQ (h := ?_) | refine keeps_takeA (hv := rv_stringOf (ns := rdM z.m.f (inH z h y.sz y.al).1 y.al.toNat) (asB (rdM z.m.f (inH z h y.sz y.al).1 y.al.toNat)) rfl (Sl.view (c := y.al.toNat)) (by rw [rdM_len]; exact Nat.le_refl _) hst) (h := ?_)), ?_⟩
      refine XD_one (h := ?_)
      refine XDa_dvA (dv_of_rv (rv_of_pv pv_assign)) (hk := ?_)
      rintro _ _ ⟨rfl, rfl⟩
      refine ⟨by repeat (first | exact keeps_nil | exact keeps_fnil | refine keeps_skip (h := ?_) | refine keeps_takeQ (h := ?_) | refine keeps_takeA (hv := rv_stringOf (ns := rdM z.m.f (inH z h y.sz y.al).1 y.al.toNat) (asB (rdM z.m.f (inH z h y.sz y.al).1 y.al.toNat)) rfl (Sl.view (c := y.al.toNat)) (by rw [rdM_len]; exact Nat.le_refl _) hst) (h := ?_)), ?_⟩
      refine XD_one (h := ?_)
      refine XDa_dvA (dv_of_rv (rv_of_pv pv_assign)) (hk := ?_)
      rintro _ _ ⟨rfl, rfl⟩
      refine ⟨by repeat (first | exact keeps_nil | exact keeps_fnil | refine keeps_skip (h := ?_) | refine keeps_takeQ (h := ?_) | refine keeps_takeA (hv := rv_stringOf (ns := rdM z.m.f (inH z h y.sz y.al).1 y.al.toNat) (asB (rdM z.m.f (inH z h y.sz y.al).1 y.al.toNat)) rfl (Sl.view (c := y.al.toNat)) (by rw [rdM_len]; exact Nat.le_refl _) hst) (h := ?_)), ?_⟩
      (refine XD_end (h := ?_); (repeat refine Z ?_))
      refine XE_ret (.inl rfl) (tells_tmps rfl rfl) ⟨_, ⟨_, _, _, _, _, _, rfl, rfl, .read hc' he⟩, by exact EN⟩
    · (repeat refine Z ?_)
      refine XO_call (ar_read_no x z hA h y.sz y.al hhb.1 hhb.2 hsz.1 hsz.2 hal.1 hal.2 he) (hk := ?_)
      rintro _ _ ⟨rfl, rfl⟩
      (repeat refine Z ?_)
      (repeat refine ZD ?_)
      refine XDi_pv pv_stringNil (h := ?_)
      (repeat refine ZD ?_)
      (refine XD_one (h := ?_); refine XDa_dvA (dv_of_rv (rv_of_pv pv_assign)) (hk := ?_); rintro _ _ ⟨rfl, rfl⟩; refine ⟨by exact KP, ?_⟩)
      (refine XD_one (h := ?_); refine XDa_dvA (dv_of_rv (rv_of_pv pv_assign)) (hk := ?_); rintro _ _ ⟨rfl, rfl⟩; refine ⟨by exact KP, ?_⟩)
      (refine XD_one (h := ?_); refine XDa_dvA (dv_of_rv (rv_of_pv pv_assign)) (hk := ?_); rintro _ _ ⟨rfl, rfl⟩; refine ⟨by exact KP, ?_⟩)
      (refine XD_one (h := ?_); refine XDa_dvA (dv_of_rv (rv_of_pv pv_assign)) (hk := ?_); rintro _ _ ⟨rfl, rfl⟩; refine ⟨by exact KP, ?_⟩)
      (refine XD_end (h := ?_); (repeat refine Z ?_))
      refine XE_ret (.inl rfl) (tells_tmps rfl rfl) ⟨_, ⟨_, _, _, _, _, _, rfl, rfl, .readNo hc' he⟩, by exact EN⟩
  have hn2 : y.d ≠ 2 := by simpa using hc2
  (repeat refine Z ?_)
  -- write
  refine X_cond rfl (fun hc => ?_) (fun hc3 => ?_)
  · have hc' : y.d = 3 := by simpa using hc
    by_cases he : (inH z h y.sz y.bs.length).2 = 0
    · (repeat refine Z ?_)
      refine XO_call (ar_write_ok (base W) x z hA h y.sz y.a y.c ho.V ho.B ho.c hhb.1 hhb.2 hsz.1 hsz.2 (by omega) he) (hk := ?_)
      rintro _ _ ⟨rfl, rfl⟩
      (repeat refine Z ?_)
      refine XE_ret (.inl rfl) (tells_tmps rfl rfl) ⟨_, ⟨_, _, _, _, _, _, rfl, rfl, .write hc' he⟩, by exact EN⟩
    · (repeat refine Z ?_)
      refine XO_call (ar_write_no (base W) x z hA h y.sz y.a y.bs.length y.c (by omega) hhb.1 hhb.2 hsz.1 hsz.2 he) (hk := ?_)
      rintro _ _ ⟨rfl, rfl⟩
      (repeat refine Z ?_)
      refine XE_ret (.inl rfl) (tells_tmps rfl rfl) ⟨_, ⟨_, _, _, _, _, _, rfl, rfl, .writeNo hc' he⟩, by exact EN⟩
  have hn3 : y.d ≠ 3 := by simpa using hc3
  (repeat refine Z ?_)
  -- mark
  refine X_cond rfl (fun hc => ?_) (fun hc4 => ?_)
  · have hc' : y.d = 4 := by simpa using hc
    rcases live_or (t := z.reg) h with h2 | h2
    · (repeat refine Z ?_)
      refine XO_call (ar_mark_no x z hA h hhb.1 hhb.2 h2) (hk := ?_)
      rintro _ _ ⟨rfl, rfl⟩
      (repeat refine Z ?_)
      refine XE_ret (.inl rfl) (tells_tmps rfl rfl) ⟨_, ⟨_, _, _, _, _, _, rfl, rfl, .markNo hc' h2⟩, by exact EN⟩
    · obtain ⟨i, b, S, hq⟩ := hA.regOf h2
      (repeat refine Z ?_)
      refine XO_call (ar_mark x z hA (by omega) hq) (hk := ?_)
      rintro _ _ ⟨rfl, rfl⟩
      (repeat refine Z ?_)
      refine XE_ret (.inl rfl) (tells_tmps rfl rfl) ⟨_, ⟨_, _, _, _, _, _, rfl, rfl, .mark i b S hc' hq⟩, by exact EN⟩
  have hn4 : y.d ≠ 4 := by simpa using hc4
  (repeat refine Z ?_)
  -- rewind
  refine X_cond rfl (fun hc => ?_) (fun hc5 => ?_)
  · have hc' : y.d = 5 := by simpa using hc
    cases hk : z.mar.get h with
    | none =>
      (repeat refine Z ?_)
      refine XO_call (ar_rewind_no x z hA h hhb.1 hhb.2 hk) (hk := ?_)
      rintro _ _ ⟨rfl, rfl⟩
      (repeat refine Z ?_)
      refine XE_ret (.inl rfl) (tells_tmps rfl rfl) ⟨_, ⟨_, _, _, _, _, _, rfl, rfl, .rewindNo hc' hk⟩, by exact EN⟩
    | some k =>
      obtain ⟨i, b, S, q1, q2, q3, q4, q5, -⟩ := hI.rewind hB (by omega) hk
      (repeat refine Z ?_)
      refine XO_call (ar_rewind x z hI hB (by omega) h hhb.1 hhb.2 hk q2 q3 q4 q5) (hk := ?_)
      rintro _ _ ⟨rfl, rfl⟩
      (repeat refine Z ?_)
      refine XE_ret (.inl rfl) (tells_tmps rfl rfl) ⟨_, ⟨_, _, _, _, _, _, rfl, rfl, .rewind k i b S hc' hk q1 q2⟩, by exact EN⟩
  have hn5 : y.d ≠ 5 := by simpa using hc5
  (repeat refine Z ?_)
  -- reset
  refine X_cond rfl (fun hc => ?_) (fun hc6 => ?_)
  · have hc' : y.d = 6 := by simpa using hc
    rcases live_or (t := z.reg) h with h2 | h2
    · (repeat refine Z ?_)
      refine XO_call (ar_reset_no x z hA h hhb.1 hhb.2 h2) (hk := ?_)
      rintro _ _ ⟨rfl, rfl⟩
      (repeat refine Z ?_)
      refine XE_ret (.inl rfl) (tells_tmps rfl rfl) ⟨_, ⟨_, _, _, _, _, _, rfl, rfl, .resetNo hc' h2⟩, by exact EN⟩
    · obtain ⟨j, b, S, hq⟩ := hA.regOf h2
      have hqm := List.mem_of_getElem? hq
      obtain ⟨i, q2, -⟩ := hI.reset hB (by omega) hqm
      (repeat refine Z ?_)
      refine XO_call (ar_reset x z hI hB (by omega) h hqm q2) (hk := ?_)
      rintro _ _ ⟨rfl, rfl⟩
      (repeat refine Z ?_)
      refine XE_ret (.inl rfl) (tells_tmps rfl rfl) ⟨_, ⟨_, _, _, _, _, _, rfl, rfl, .reset i b S hc' hqm q2⟩, by exact EN⟩
  have hn6 : y.d ≠ 6 := by simpa using hc6
  (repeat refine Z ?_)
  -- free
  refine X_cond rfl (fun hc => ?_) (fun hc7 => ?_)
  · have hc' : y.d = 7 := by simpa using hc
    rcases live_or (t := z.reg) h with h2 | h2
    · (repeat refine Z ?_)
      refine XO_call (ar_free_no x z hA.w h hhb.1 hhb.2 h2) (hk := ?_)
      rintro _ _ ⟨rfl, rfl⟩
      (repeat refine Z ?_)
      refine XE_ret (.inl rfl) (tells_tmps rfl rfl) ⟨_, ⟨_, _, _, _, _, _, rfl, rfl, .freeNo hc' h2⟩, by exact EN⟩
    · (repeat refine Z ?_)
      refine XO_call (ar_freeL x z hA hI.trok (by omega) h hhb.1 hhb.2 h2) (hk := ?_)
      rintro _ _ ⟨rfl, rfl⟩
      (repeat refine Z ?_)
      refine XE_ret (.inl rfl) (tells_tmps rfl rfl) ⟨_, ⟨_, _, _, _, _, _, rfl, rfl, .free hc' h2⟩, by exact EN⟩
  have hn7 : y.d ≠ 7 := by simpa using hc7
  (repeat refine Z ?_)
  -- trim
  refine XO_call (ar_trim x z hA.R.K.ci.ok) (hk := ?_)
  rintro _ _ ⟨rfl, rfl⟩
  (repeat refine Z ?_)
  refine XE_ret (.inl rfl) (tells_tmps rfl rfl) ⟨_, ⟨_, _, _, _, _, _, rfl, rfl, .trim (by omega)⟩, by exact EN⟩
end Go.Proofs.YtamecmklcnohjaaGreat.Sep
namespace Go.Proofs.YtamecmklcnohjaaGreat.Sep
open Go.RowKit
set_option linter.unusedSimpArgs false
set_option linter.unusedVariables false
theorem cnt_memD {x : Int} {q : Int × Int} : ∀ {l : List (Int × Int)}, q ∈ l → ind x q ≤ cnt x l
  | a :: l, h => by
    simp only [cnt]
    have h1 := ind_nn x a
    have h2 := cnt_nn x l
    rcases List.mem_cons.1 h with e | e
    · subst e; omega
    · have := cnt_memD (x := x) e; omega
theorem cnt_two {x : Int} {q r : Int × Int} (hne : q ≠ r) : ∀ {l : List (Int × Int)}, q ∈ l → r ∈ l → ind x q + ind x r ≤ cnt x l
  | a :: l, h1, h2 => by
    simp only [cnt]
    have h0 := ind_nn x a
    rcases List.mem_cons.1 h1 with e | e <;> rcases List.mem_cons.1 h2 with f | f
    · exact absurd (e.trans f.symm) hne
    · subst e; have := cnt_memD (x := x) f; omega
    · subst f; have := cnt_memD (x := x) e; omega
    · have := cnt_two (x := x) hne e f; omega
theorem KInv.wr {C : Co} {m : Int → Int} {got : List (Int × Hd)} (h : KInv C m got) {r : Int × Int} (hr : r ∈ gr got) {at_ : Int} {bs : List Int} (h1 : r.1 * 4096 + 32 ≤ at_) (h2 : at_ + bs.length ≤ (r.1 + r.2) * 4096) : KInv C (wrM m at_ bs) got := by
  refine ⟨h.ci, h.run, h.part, h.tot, fun q hq => ?_⟩
  obtain ⟨e1, e2⟩ := h.hdr q hq
  refine ⟨?_, e2⟩
  rw [← e1]
  refine rdM_ext fun a a0 a1 => ?_
  have hq2 : (q.1, q.2.pages) ∈ gr got := List.mem_map.2 ⟨q, hq, rfl⟩
  have hqr := h.run q hq
  unfold RunOk at hqr
  dsimp only at hqr
  have far : q.1 = r.1 ∨ q.1 < r.1 ∨ r.1 + r.2 ≤ q.1 := by
    by_cases hx : q.1 = r.1 ∨ q.1 < r.1 ∨ r.1 + r.2 ≤ q.1
    · exact hx
    · exfalso
      have hne : (q.1, q.2.pages) ≠ r := fun e => hx (.inl (by rw [← e]))
      have h3 := cnt_two (x := q.1) hne hq2 hr
      have h4 := h.part q.1
      have h5 := part_le1 (x := q.1) (P := C.P)
      have h6 := h.ci
      have i1 : ind q.1 (q.1, q.2.pages) = 1 := by unfold ind; rw [if_pos ⟨by show q.1 ≤ q.1; omega, by show q.1 < q.1 + q.2.pages; omega⟩]
      have i2 : ind q.1 r = 1 := by unfold ind; rw [if_pos ⟨by omega, by omega⟩]
      have h7 : 0 ≤ cC q.1 C := by
        unfold cC
        have := cnt_nn q.1 C.fr
        first | omega | (have := cnt_nn q.1 (kall C.ks 7); omega)
      omega
  unfold wrM
  rw [if_neg]
  have a1' : a < q.1 * 4096 + 32 := a1
  rintro ⟨b1, b2⟩
  rcases far with f | f | f
  · rw [f] at a1'; omega
  · omega
  · omega
theorem gotM_mem {M : List RgT} {q : RgT} (hq : q ∈ M) {r : Int × Int} (hr : r ∈ q.2.2.parts.map runP ++ q.2.2.larges) : r ∈ gr (gotM M) := by
  obtain ⟨M1, M2, rfl⟩ := List.append_of_mem hq
  unfold gotM
  rw [List.flatMap_append, List.flatMap_cons, gr_app, gr_app]
  refine List.mem_append.2 (.inr (List.mem_append.2 (.inl ?_)))
  unfold gotR
  rw [gr_app, plH_gr, plH_gr]
  exact hr
theorem AOk.wr {N : Nat} {z : Ar} (h : AOk N z) {q : RgT} (hq : q ∈ z.M) {at_ n : Int} (hi : InS q.2.2 at_ n) {p : Int} {bs : List Int} (h1 : at_ ≤ p) (h2 : p + bs.length ≤ at_ + n) : AOk N { z with m := stM z.m p bs } := by
  obtain ⟨r, hr, g1, g2⟩ := hi
  exact ⟨h.hN, ⟨h.R.K.wr (gotM_mem hq hr) (by omega) (by omega), h.R.hP, h.R.S, h.R.po⟩, h.rg, h.ob, h.mr, h.k1, h.k2, h.k3, h.T, h.tl, h.rl, h.live, h.own, h.hb, h.nd, h.tk, h.pl, h.rb⟩
theorem AOk.trim {N : Nat} {z : Ar} (h : AOk N z) : AOk N { z with C := trimC z.C } :=
  ⟨h.hN, ⟨ktrim h.R.K, h.R.hP, h.R.S, h.R.po⟩, h.rg, h.ob, h.mr, h.k1, h.k2, h.k3, h.T, h.tl, h.rl, h.live, h.own, h.hb, h.nd, h.tk, h.pl, h.rb⟩
theorem Inv.same {σ : Int → Sh} {z z' : Ar} (h : Inv σ z) (h1 : z'.reg = z.reg) (h2 : z'.M = z.M) (h3 : z'.obj = z.obj) (h4 : z'.mar = z.mar) (h5 : z'.tr = z.tr) (h6 : z'.rs = z.rs) : Inv σ z' := by
  refine ⟨?_, ?_, ?_, ?_, ?_, ?_, ?_⟩
  · rw [h1, h3, h4, h5, h6]; exact h.tr
  · exact h.pb
  · rw [h1, h3, h6]; exact h.ob
  · rw [h2, h4, h6]; exact h.ma
  · rw [h4]; exact h.pw
  · rw [h2, h3]; exact h.pl
  · rw [h3, h4, h6]; exact h.om
def ToldA (z : Ar) (h : Int) : Prop := (hKind h = 1 ∧ z.reg.Old h) ∨ (hKind h = 2 ∧ z.obj.Old h) ∨ (hKind h = 3 ∧ z.mar.Old h)
def DeadA (z : Ar) (h : Int) : Prop := z.reg.get h = none ∧ z.obj.get h = none ∧ z.mar.get h = none
structure Mono (z z' : Ar) : Prop where
  P : z'.P = z.P
  told : ∀ h, ToldA z h → ToldA z' h
  dead : ∀ h, ToldA z h → DeadA z h → DeadA z' h
theorem Mono.refl (z : Ar) : Mono z z := ⟨rfl, fun _ h => h, fun _ _ h => h⟩
theorem Mono.trans {a b c : Ar} (h : Mono a b) (k : Mono b c) : Mono a c := ⟨k.P.trans h.P, fun x e => k.told x (h.told x e), fun x e f => k.dead x (h.told x e) (h.dead x e f)⟩
theorem Mono.of_tabs {z z' : Ar} (hP : z'.P = z.P) (h1 : z'.reg = z.reg) (h2 : z'.obj = z.obj) (h3 : z'.mar = z.mar) : Mono z z' := by
  refine ⟨hP, fun x e => ?_, fun x e f => ?_⟩
  · unfold ToldA; rw [h1, h2, h3]; exact e
  · unfold DeadA; rw [h1, h2, h3]; exact f
theorem Mono.of_less {z z' : Ar} (hP : z'.P = z.P) (r : ∀ h v, z'.reg.get h = some v → z.reg.get h = some v) (o : ∀ h v, z'.obj.get h = some v → z.obj.get h = some v) (m : ∀ h v, z'.mar.get h = some v → z.mar.get h = some v) (oR : ∀ h, z.reg.Old h → z'.reg.Old h) (oO : ∀ h, z.obj.Old h → z'.obj.Old h) (oM : ∀ h, z.mar.Old h → z'.mar.Old h) : Mono z z' := by
  have key : ∀ {α : Type} {t t' : Tb α} {h : Int}, (∀ h v, t'.get h = some v → t.get h = some v) → t.get h = none → t'.get h = none := fun {α t t' h} k e => by
    cases hc : t'.get h with
    | none => rfl
    | some v => rw [k h v hc] at e; cases e
  refine ⟨hP, fun x e => ?_, fun x _ f => ⟨key r f.1, key o f.2.1, key m f.2.2⟩⟩
  rcases e with ⟨a, b⟩ | ⟨a, b⟩ | ⟨a, b⟩
  · exact .inl ⟨a, oR x b⟩
  · exact .inr (.inl ⟨a, oO x b⟩)
  · exact .inr (.inr ⟨a, oM x b⟩)
theorem Mono.created {N : Nat} {z : Ar} (hA : AOk N z) (hN : N + 1 ≤ 100000) (p : Int) (b : Nat) : Mono z (z.created p b) := by
  refine ⟨rfl, fun x e => ?_, fun x e f => ⟨?_, f.2.1, f.2.2⟩⟩
  · rcases e with ⟨a, c⟩ | e
    · exact .inl ⟨a, (c.add hA.rg none).put _ _⟩
    · exact .inr e
  · show ((z.reg.add none).put z.reg.addH (some b)).get x = none
    cases hc : ((z.reg.add none).put z.reg.addH (some b)).get x with
    | none => rfl
    | some v =>
      obtain ⟨x0, x1⟩ := Tb.get_bd ((hA.rg.add (by omega) none).put _ _) hc
      have hk := get_kind hc
      rw [Tb.put_kind, Tb.kind_add, hA.k1] at hk
      rcases e with ⟨_, c⟩ | ⟨a, _⟩ | ⟨a, _⟩
      · rw [created_get hA hN b x0 x1, if_neg (c.ne hA.rg), f.1] at hc; cases hc
      · omega
      · omega
theorem Mono.alloced {N : Nat} {z : Ar} (hA : AOk N z) (hN : N + 1 ≤ 100000) (i b : Nat) (of_ size : Int) (C' : Co) (m' : Mm) (S' : Sh) (at_ e : Int) : Mono z (z.alloced i b of_ size C' m' S' at_ e) := by
  by_cases he : e = 0
  · have ho : (z.alloced i b of_ size C' m' S' at_ e).obj = z.obj.add (at_, size, of_) := by show (if e = 0 then _ else _) = _; rw [if_pos he]
    refine ⟨rfl, fun x e => ?_, fun x e f => ⟨f.1, ?_, f.2.2⟩⟩
    · rcases e with e | ⟨a, c⟩ | e
      · exact .inl e
      · exact .inr (.inl ⟨a, by rw [ho]; exact c.add hA.ob _⟩)
      · exact .inr (.inr e)
    · rw [ho]
      cases hc : (z.obj.add (at_, size, of_)).get x with
      | none => rfl
      | some v =>
        obtain ⟨x0, x1⟩ := Tb.get_bd (hA.ob.add (by omega) (at_, size, of_)) hc
        have hk := get_kind hc
        rw [Tb.kind_add, hA.k2] at hk
        rcases e with ⟨a, _⟩ | ⟨_, c⟩ | ⟨a, _⟩
        · omega
        · rw [Tb.get_add hA.ob _ x0 x1, if_neg (c.ne hA.ob), f.2.1] at hc; cases hc
        · omega
  · exact Mono.of_tabs rfl rfl (by show (if e = 0 then _ else _) = _; rw [if_neg he]) rfl
theorem Mono.marked {N : Nat} {z : Ar} (hA : AOk N z) (hN : N + 1 ≤ 100000) (of_ : Int) (S : Sh) : Mono z (z.marked of_ S) := by
  refine ⟨rfl, fun x e => ?_, fun x e f => ⟨f.1, f.2.1, ?_⟩⟩
  · rcases e with e | e | ⟨a, c⟩
    · exact .inl e
    · exact .inr (.inl e)
    · exact .inr (.inr ⟨a, c.add hA.mr _⟩)
  · show (z.mar.add (mkOf z of_ S)).get x = none
    cases hc : (z.mar.add (mkOf z of_ S)).get x with
    | none => rfl
    | some v =>
      obtain ⟨x0, x1⟩ := Tb.get_bd (hA.mr.add (by omega) (mkOf z of_ S)) hc
      have hk := get_kind hc
      rw [Tb.kind_add, hA.k3] at hk
      rcases e with ⟨a, _⟩ | ⟨a, _⟩ | ⟨_, c⟩
      · omega
      · omega
      · rw [Tb.get_add hA.mr _ x0 x1, if_neg (c.ne hA.mr), f.2.2] at hc; cases hc
theorem Less.mono {o : Int} {z z' : Ar} (h : Less o z z') : Mono z z' := Mono.of_less h.P h.reg h.obj h.mar h.oR h.oO h.oM
theorem Mono.cutRs {z : Ar} {rs : List (Int × Int)} : Mono z { z with rs := rs } := Mono.of_tabs rfl rfl rfl rfl
theorem Mono.set {z : Ar} (i b : Nat) (o : Int) (S S' : Sh) (mc ml at_ : Int) : Mono z (z.setS i b o S S' mc ml at_) := Mono.of_tabs rfl rfl rfl rfl
theorem AB.same {B : Nat} {z z' : Ar} (h : AB B z) (hk : ∀ n, AOk n z → AOk n z') (h1 : z'.rs = z.rs) (h2 : z'.tr = z.tr) : AB B z' := by
  obtain ⟨n, hA, hn⟩ := h
  exact ⟨n, hk n hA, by rw [h1, h2]; exact hn⟩
theorem Did.keeps {σ σ' : Int → Sh} {z z' : Ar} {y : A18} {h r n e : Int} {s : ByteArray} {B : Nat} {W : World} (d : Did σ z y h z' σ' r s n e) (hI : Inv σ z) (hB : AB B z) (hN : 8 * B + 40 ≤ 100000) (ho : OkA18 W y) (hh : 0 ≤ h ∧ h ≤ 18446744073709551615) :
    Inv σ' z' ∧ AB (B + 3) z' ∧ Mono z z' ∧ (r ≠ 0 → ToldA z' r ∧ 0 ≤ r ∧ r ≤ 18446744073709551615) := by
  have hA := hB.ok (by omega)
  have hsz := ho.sz
  have hal := ho.al
  have stay : Inv σ z ∧ AB (B + 3) z ∧ Mono z z ∧ ((0 : Int) ≠ 0 → ToldA z 0 ∧ (0 : Int) ≤ 0 ∧ (0 : Int) ≤ 18446744073709551615) := ⟨hI, hB.le (Nat.le_add_right _ _), Mono.refl z, fun e => absurd rfl e⟩
  cases d with
  | createNo _ _ _ => exact stay
  | allocNo _ _ => exact stay
  | readNo _ _ => exact stay
  | writeNo _ _ => exact stay
  | markNo _ _ => exact stay
  | rewindNo _ _ => exact stay
  | resetNo _ _ => exact stay
  | freeNo _ _ => exact stay
  | create b _ hp =>
    refine ⟨hI.created hA (by omega) h b, hB.created (by omega) hp b, Mono.created hA (by omega) h b, fun _ => ⟨.inl ⟨?_, (Tb.Old.addH hA.rg none).put _ _⟩, Tb.addH_bd hA.rg⟩⟩
    rw [(Tb.addH_parts hA.rg).1]; exact hA.k1
  | alloc i b S C' m' S' at_ e _ hq har =>
    refine ⟨hI.alloced hA (by omega) hq hsz.1 hal.1 hal.2 har, (hB.alloced (by omega) hq hsz.1 hal.1 hal.2 har).le (by omega), Mono.alloced hA (by omega) i b h y.sz C' m' S' at_ e, fun hr => ?_⟩
    by_cases he : e = 0
    · rw [if_pos he]
      refine ⟨.inr (.inl ⟨by rw [(Tb.addH_parts hA.ob).1]; exact hA.k2, ?_⟩), Tb.addH_bd hA.ob⟩
      show (if e = 0 then z.obj.add (at_, y.sz, h) else z.obj).Old z.obj.addH
      rw [if_pos he]; exact Tb.Old.addH hA.ob _
    · rw [if_neg he] at hr; exact absurd rfl hr
  | read _ _ => exact ⟨hI.same rfl rfl rfl rfl rfl rfl, (hB.same (z' := { z with m := ldM z.m (inH z h y.sz y.al).1 y.al }) (fun n hn => hn.mem rfl) rfl rfl).le (Nat.le_add_right _ _), Mono.of_tabs rfl rfl rfl rfl, fun e => absurd rfl e⟩
  | write _ he =>
    obtain ⟨o, hgo, hin, hi1⟩ := inH_some he
    obtain ⟨-, hl⟩ := hI.ob h o hgo
    obtain ⟨i, b, S, hq⟩ := hA.regOf hl
    have hqm := List.mem_of_getElem? hq
    have hpl := hI.pl h o b S hgo hqm
    exact ⟨hI.same rfl rfl rfl rfl rfl rfl, (hB.same (fun n hn => hn.wr hqm hpl (by rw [hi1]; omega) (by rw [hi1]; omega)) rfl rfl).le (Nat.le_add_right _ _), Mono.of_tabs rfl rfl rfl rfl, fun e => absurd rfl e⟩
  | mark i b S _ hq =>
    refine ⟨hI.marked hA (by omega) hq, (hB.marked (by omega) h S).le (by omega), Mono.marked hA (by omega) h S, fun _ => ⟨.inr (.inr ⟨?_, Tb.Old.addH hA.mr _⟩), Tb.addH_bd hA.mr⟩⟩
    rw [(Tb.addH_parts hA.mr).1]; exact hA.k3
  | rewind k i b S _ hk q1 q2 =>
    obtain ⟨i', b', S', q1', q2', q3', q4', q5', q6', q7', q8'⟩ := hI.rewind hB (by omega) hk
    have e1 := M_same (hB.ok (by omega)).nd (List.getElem?_of_mem q1 |>.choose_spec) q1'
    obtain ⟨rfl, rfl⟩ := e1
    obtain ⟨hI1, hB1, -⟩ := hI.giveA hB (by omega) (hA.hb _ q1) k.tr.toNat
    have e2 := M_ix (hB1.ok (by omega)).nd q2 q2' rfl
    subst e2
    exact ⟨q6', q7'.le (by omega), (Mono.cutRs.trans q8'.mono).trans (Mono.set ..), fun e => absurd rfl e⟩
  | reset i b S _ q1 q2 =>
    obtain ⟨i', q2', q3', q4', q5'⟩ := hI.reset hB (by omega) q1
    obtain ⟨hI1, hB1, -⟩ := hI.giveA hB (by omega) (hA.hb _ q1) 0
    have e2 := M_ix (hB1.ok (by omega)).nd q2 q2' rfl
    subst e2
    exact ⟨q3', q4'.le (by omega), (Mono.cutRs.trans q5'.mono).trans (Mono.set ..), fun e => absurd rfl e⟩
  | free _ hl =>
    have h0 : (0 : Int) ∉ ordT z.tr h := fun hg => by
      obtain ⟨q, hq, e⟩ := List.mem_map.1 (ordF_in ((hA.tk h).2 hl) hg)
      exact hA.T.nz q hq e
    exact ⟨InvP.free (o := 0) hI hA (by omega) hl (fun q hq => by cases hq) (.inr rfl), (hB.free hI.trok (by omega) hl).le (by omega), (freeR_less hA hI.trok (by omega) hl h0 (by decide)).mono, fun e => absurd rfl e⟩
  | trim _ => exact ⟨hI.same rfl rfl rfl rfl rfl rfl, (hB.same (fun n hn => hn.trim) rfl rfl).le (Nat.le_add_right _ _), Mono.of_tabs rfl rfl rfl rfl, fun e => absurd rfl e⟩
end Go.Proofs.YtamecmklcnohjaaGreat.Sep
namespace Go.Proofs.YtamecmklcnohjaaGreat.Sep
open Go.RowKit
set_option linter.unusedSimpArgs false
set_option linter.unusedVariables false
theorem cpages_pos7 : ∀ k : Nat, k < 7 → 1 ≤ cpages (k : Int)
  | 0, _ => by decide
  | 1, _ => by decide
  | 2, _ => by decide
  | 3, _ => by decide
  | 4, _ => by decide
  | 5, _ => by decide
  | 6, _ => by decide
  | k + 7, h => by omega
theorem kall_pos (ks : Nat → List Int) : ∀ n, n ≤ 7 → ∀ r ∈ kall ks n, 1 ≤ r.2
  | 0, _, r, h => by cases h
  | n + 1, hn, r, h => by
    unfold kall at h
    rcases List.mem_append.1 h with h1 | h1
    · exact kall_pos ks n (by omega) r h1
    · obtain ⟨p, _, rfl⟩ := List.mem_map.1 h1
      exact cpages_pos7 n (by omega)
theorem full_none {C : Co} {m : Int → Int} {pg : Int} {hd : Hd} (h : KInv C m [(pg, hd)]) (hp : hd.pages = C.P) : C.fr = [] ∧ kall C.ks 7 = [] := by
  have hr := h.run (pg, hd) (by simp)
  unfold RunOk at hr
  dsimp only at hr
  rw [hp] at hr
  have h0 : pg = 0 := by omega
  have key : ∀ r : Int × Int, 1 ≤ r.2 → 0 ≤ r.1 → r.1 < C.P → ind r.1 r = 1 ∧ cC r.1 C = 0 := fun r h1 h2 h3 => by
    have hx := h.part r.1
    rw [if_pos ⟨h2, h3⟩] at hx
    have e : cnt r.1 (gr [(pg, hd)]) = 1 := by
      show ind r.1 (pg, hd.pages) + 0 = 1
      unfold ind
      rw [if_pos ⟨by show pg ≤ r.1; omega, by show r.1 < pg + hd.pages; omega⟩]; rfl
    refine ⟨by unfold ind; rw [if_pos ⟨Int.le_refl _, by omega⟩], by omega⟩
  constructor
  · cases hf : C.fr with
    | nil => rfl
    | cons r l =>
      exfalso
      have hR := h.ci.ok.right
      rw [hf] at hR
      obtain ⟨a1, a2, a3, -⟩ := hR
      obtain ⟨i1, i2⟩ := key r (by omega) (by omega) (by omega)
      unfold cC at i2
      rw [hf] at i2
      simp only [cnt] at i2
      have := cnt_nn r.1 l
      have := cnt_nn r.1 (kall C.ks 7)
      omega
  · cases hk : kall C.ks 7 with
    | nil => rfl
    | cons r l =>
      exfalso
      have hrm : r ∈ kall C.ks 7 := by rw [hk]; simp
      have hpos := kall_pos C.ks 7 (Nat.le_refl _) r hrm
      have hx := h.part r.1
      have c1 : 1 ≤ cC r.1 C := by
        unfold cC
        rw [hk]
        simp only [cnt]
        have : ind r.1 r = 1 := by unfold ind; rw [if_pos ⟨Int.le_refl _, by omega⟩]
        have := cnt_nn r.1 l
        have := cnt_nn r.1 C.fr
        omega
      have c2 := cnt_nn r.1 (gr [(pg, hd)])
      split at hx
      · rename_i hb
        obtain ⟨-, i2⟩ := key r hpos hb.1 hb.2
        omega
      · omega
theorem fit_zero {size : Int} (h0 : 1 ≤ size) : fitI 0 0 size 1 = none := by
  unfold fitI
  rw [show upI 0 1 = some 0 from by decide]
  show (addI 0 size).bind _ = none
  cases ha : addI 0 size with
  | none => rfl
  | some en =>
    unfold addI at ha
    split at ha
    · cases ha
      show (if size = 0 ∨ 0 < 0 + size then none else _) = none
      rw [if_pos (by right; omega)]
    · cases ha
theorem chunk_all {P : Int} (h1 : 65 ≤ P) (h2 : P ≤ 65600) : chunkI (P * 4096 - 32) 1 = (P, true, true) := by
  have hn : needI (P * 4096 - 32) 1 = some P := by
    unfold needI
    rw [if_neg (by omega), show upI 32 1 = some 32 from by decide]
    show (addI 32 (P * 4096 - 32)).map _ = _
    unfold addI
    rw [if_pos (by omega)]
    show some ((32 + (P * 4096 - 32) + 4095) / 4096) = _
    congr 1
    omega
  unfold chunkI
  rw [hn]
  show (if 1048576 < P then _ else if 64 < P then _ else _) = _
  rw [if_neg (by omega), if_pos (by omega)]
theorem AR.whole {P : Int} {B : Nat} {o : Int} {C C' : Co} {m m' : Mm} {s' : Sh} {oth : List (Int × Hd)} {at_ e : Int} (hR : RInv P B o C m.f emptySh oth) (h1 : 65 ≤ P) (h2 : P ≤ 65600) (hf : C.fr = [(0, P)]) (h : AR P C m emptySh o (P * 4096 - 32) 1 C' m' s' at_ e) : e = 0 ∧ ∃ pg, s'.parts = [] ∧ s'.larges = [(pg, P)] := by
  have hP := hR.hP
  have hhw : HW C 0 := fun x x0 x1 => by
    rw [hf]
    simp only [cnt]
    unfold ind
    rw [if_pos ⟨x0, by show x < 0 + P; rw [hP] at x1; omega⟩]
    decide
  have hg := hw_get hR.K hhw (Int.le_refl _) (show 1 ≤ P by omega) (by rw [hP]; omega)
  have hc := chunk_all h1 h2
  cases h with
  | bad hb => exact absurd hb (not_bad1 (by omega))
  | fit q _ hq =>
    exfalso
    have : fitI (topAt emptySh) (topEnd emptySh) (P * 4096 - 32) 1 = none := fit_zero (by omega)
    rw [this] at hq; cases hq
  | huge _ _ hq => rw [hc] at hq; cases hq
  | full n big _ _ hq hz =>
    rw [hc] at hq
    simp only [Prod.mk.injEq] at hq
    rw [← hq.1] at hz
    exact absurd hg.1 hz
  | big n pg _ _ hq _ =>
    rw [hc] at hq
    simp only [Prod.mk.injEq] at hq
    rw [← hq.1]
    exact ⟨rfl, pg, rfl, rfl⟩
  | part n pg _ _ hq _ =>
    rw [hc] at hq
    simp only [Prod.mk.injEq] at hq
    cases hq.2.1
theorem AR.none_left {P : Int} {o : Int} {C C' : Co} {m m' : Mm} {s s' : Sh} {at_ e : Int} (hp : s.parts = []) (hf : C.fr = []) (hk : kall C.ks 7 = []) (h : AR P C m s o 1 1 C' m' s' at_ e) : e = 4 := by
  have hc : chunkI 1 1 = (1, false, true) := by decide
  have hcl : 0 ≤ cclass 1 → cclass 1 < 7 := fun _ => by decide
  have hn := (get_none hf hk (show (1 : Int) ≤ 1 by decide) hcl).1
  have ht : topAt s = 0 := by unfold topAt; rw [hp]; rfl
  have he : topEnd s = 0 := by unfold topEnd; rw [hp]; rfl
  cases h with
  | bad hb => exact absurd hb (not_bad1 (by decide))
  | fit q _ hq => rw [ht, he, fit_zero (by decide)] at hq; cases hq
  | huge _ _ _ => rfl
  | full _ _ _ _ _ _ => rfl
  | big n pg _ _ hq hz =>
    rw [hc] at hq
    simp only [Prod.mk.injEq] at hq
    cases hq.2.1
  | part n pg _ _ hq hz =>
    rw [hc] at hq
    simp only [Prod.mk.injEq] at hq
    rw [← hq.1] at hz
    rw [hz] at hn
    cases hn
structure Void (z : Ar) : Prop where
  M : z.M = []
  r : z.reg.handles = []
  o : z.obj.handles = []
  m : z.mar.handles = []
theorem handles_nil {α : Type} {N : Nat} {t : Tb α} (ht : TbOk N t) (h : ∀ x v, t.get x = some v → False) : t.handles = [] := by
  cases hh : t.handles with
  | nil => rfl
  | cons x l =>
    exfalso
    have hx : x ∈ t.handles := by rw [hh]; simp
    obtain ⟨v, hv⟩ := Option.isSome_iff_exists.1 ((Tb.handles_iff ht).1 hx)
    exact h x v hv
theorem Inv.void {σ : Int → Sh} {z : Ar} (h : Inv σ z) {N : Nat} (hA : AOk N z) (hr : ∀ x, z.reg.get x = none) : Void z := by
  have hM : z.M = [] := by
    cases hm : z.M with
    | nil => rfl
    | cons q l =>
      have := hA.own q (by rw [hm]; simp)
      rw [hr] at this; cases this
  refine ⟨hM, handles_nil hA.rg (fun x v e => ?_), handles_nil hA.ob (fun x v e => ?_), handles_nil hA.mr (fun x v e => ?_)⟩
  · rw [hr] at e; cases e
  · have := (h.ob x v e).2
    rw [hr] at this; cases this
  · obtain ⟨⟨b, S, m1, -⟩, -⟩ := h.ma x v e
    rw [hM] at m1; cases m1
theorem meter_void {z : Ar} {N : Nat} (hA : AOk N z) (hv : Void z) : meterA { z with C := trimC z.C } = [0, 0, z.P, 1, 0, 0, 0, 0] := by
  have hK := hA.R.K
  rw [hv.M] at hK
  have hfr := kdone hK
  have hP := hA.R.hP
  have hk : kall (trimC z.C).ks 7 = [] := kall_nil
  unfold meterA sumH
  show [z.P - totI (trimC z.C).fr, totI (kall (trimC z.C).ks 7), totI (trimC z.C).fr, ((trimC z.C).fr.length : Int), _, _, _, _] = _
  rw [hfr, hk, hP, hv.r]
  simp [totI, IntKind.wrap, IntKind.bits, IntKind.signed]
end Go.Proofs.YtamecmklcnohjaaGreat.Sep
