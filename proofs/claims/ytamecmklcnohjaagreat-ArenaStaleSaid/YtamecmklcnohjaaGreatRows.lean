/-
  No cell of these rows narrows 'for every input' (looked for: loops, veiled, ifaces, maps, wideKeys, modest, calm, conditions, laid).
  DERIVED. THE GIVEN ROWS OF THIS SEAT. 10 by the template 'for every input the law returns true; each argument reads behind the call as it read before'; 0 by the template 'total and deterministic' (their statements: YtamecmklcnohjaaGreatTotals.lean).
  GIVEN WITH THE SEED: the statements are not yours to turn. If you find one false, say at which input.
  Laid BY PROGRAM, IN A SANDBOX (cutbox-rows.mjs): the forced cells as the released guide's own fill.sh prints them over the translation d1d6b2b021667f06… (all of the seat's roots in one cut). By AI agents, Wed Nov 11 2026. No macro, syntax, notation, axiom, sorry.
-/
import Derived.Test.YtamecmklcnohjaaGreatChecked
import GoSem.Claim
import GoSem.ClaimJoined
import GoSem.ClaimMapViews
import Derived.JoinedTies
import Derived.KernelRfl
namespace Go.Proofs.YtamecmklcnohjaaGreat
/- THE CELL 'sum', in the pinned program and in every row, IS THE sha256 OF THE DUMP (.gsa) THAT YtamecmklcnohjaaGreatProg.lean LOADS. Nothing in Lean hashes anything: it is a label: what it is worth is what the hold of that sum in a sandbox is worth. -/
noncomputable def Tryz.pinned : Pinned := { name := "ytamecmklcnohjaagreat", sum := "d1d6b2b021667f062efd0ab4cd00373b7c3ecc766d88613140f53cca4041d010", checked := Tryz.checked }
namespace Rows
def none {H : Type} : Left H := { results := [], args := [] }

/-- 'steadinglaw19.LedgerRegions': WHATEVER THE INPUT: true; the input reads as it did. -/
def ledgerRegionsSpec : ChangeSpec := { name := "ledgerRegions", fn := fun _ => fun
  | [d1, d2] => { results := [.lit (.bool true)], args := [d1, d2] }
  | _ => none }
def ledgerRegionsRow : OpenClaim := { program := "ytamecmklcnohjaagreat", sum := "d1d6b2b021667f062efd0ab4cd00373b7c3ecc766d88613140f53cca4041d010", func := "steading/steadinglaw19.LedgerRegions", spec := "ledgerRegions", unfollowed := true, recurses := true, plainKeys := false, apart := false }
def LedgerRegionsSaid : Prop := ledgerRegionsRow.holds Tryz.pinned (OpenSpec.ofChange ledgerRegionsSpec)

/-- ITS FALSE NEIGHBOUR: 'it returns false'. Refute it at one input. -/
def ledgerRegionsWrong : ChangeSpec := { name := "ledgerRegions", fn := fun _ => fun
  | [d1, d2] => { results := [.lit (.bool false)], args := [d1, d2] }
  | _ => none }
def LedgerRegionsWrongFalsely : Prop := ledgerRegionsRow.holds Tryz.pinned (OpenSpec.ofChange ledgerRegionsWrong)

/-- 'steadinglaw18.ArenaNested': WHATEVER THE INPUT: true; the input reads as it did. -/
def arenaNestedSpec : ChangeSpec := { name := "arenaNested", fn := fun _ => fun
  | [d1, d2] => { results := [.lit (.bool true)], args := [d1, d2] }
  | _ => none }
def arenaNestedRow : OpenClaim := { program := "ytamecmklcnohjaagreat", sum := "d1d6b2b021667f062efd0ab4cd00373b7c3ecc766d88613140f53cca4041d010", func := "steading/steadinglaw18.ArenaNested", spec := "arenaNested", unfollowed := true, recurses := true, plainKeys := false, apart := false }
def ArenaNestedSaid : Prop := arenaNestedRow.holds Tryz.pinned (OpenSpec.ofChange arenaNestedSpec)

/-- ITS FALSE NEIGHBOUR: 'it returns false'. Refute it at one input. -/
def arenaNestedWrong : ChangeSpec := { name := "arenaNested", fn := fun _ => fun
  | [d1, d2] => { results := [.lit (.bool false)], args := [d1, d2] }
  | _ => none }
def ArenaNestedWrongFalsely : Prop := arenaNestedRow.holds Tryz.pinned (OpenSpec.ofChange arenaNestedWrong)

/-- 'steadinglaw18.ArenaMarks': WHATEVER THE INPUT: true; the input reads as it did. -/
def arenaMarksSpec : ChangeSpec := { name := "arenaMarks", fn := fun _ => fun
  | [d1, d2] => { results := [.lit (.bool true)], args := [d1, d2] }
  | _ => none }
def arenaMarksRow : OpenClaim := { program := "ytamecmklcnohjaagreat", sum := "d1d6b2b021667f062efd0ab4cd00373b7c3ecc766d88613140f53cca4041d010", func := "steading/steadinglaw18.ArenaMarks", spec := "arenaMarks", unfollowed := true, recurses := true, plainKeys := false, apart := false }
def ArenaMarksSaid : Prop := arenaMarksRow.holds Tryz.pinned (OpenSpec.ofChange arenaMarksSpec)

/-- ITS FALSE NEIGHBOUR: 'it returns false'. Refute it at one input. -/
def arenaMarksWrong : ChangeSpec := { name := "arenaMarks", fn := fun _ => fun
  | [d1, d2] => { results := [.lit (.bool false)], args := [d1, d2] }
  | _ => none }
def ArenaMarksWrongFalsely : Prop := arenaMarksRow.holds Tryz.pinned (OpenSpec.ofChange arenaMarksWrong)

/-- 'steadinglaw18.ArenaBytes': WHATEVER THE INPUT: true; the input reads as it did. -/
def arenaBytesSpec : ChangeSpec := { name := "arenaBytes", fn := fun _ => fun
  | [d] => { results := [.lit (.bool true)], args := [d] }
  | _ => none }
def arenaBytesRow : OpenClaim := { program := "ytamecmklcnohjaagreat", sum := "d1d6b2b021667f062efd0ab4cd00373b7c3ecc766d88613140f53cca4041d010", func := "steading/steadinglaw18.ArenaBytes", spec := "arenaBytes", unfollowed := true, recurses := true, plainKeys := false, apart := false }
def ArenaBytesSaid : Prop := arenaBytesRow.holds Tryz.pinned (OpenSpec.ofChange arenaBytesSpec)

/-- ITS FALSE NEIGHBOUR: 'it returns false'. Refute it at one input. -/
def arenaBytesWrong : ChangeSpec := { name := "arenaBytes", fn := fun _ => fun
  | [d] => { results := [.lit (.bool false)], args := [d] }
  | _ => none }
def ArenaBytesWrongFalsely : Prop := arenaBytesRow.holds Tryz.pinned (OpenSpec.ofChange arenaBytesWrong)

/-- 'steadinglaw18.ArenaStale': WHATEVER THE INPUT: true; the input reads as it did. -/
def arenaStaleSpec : ChangeSpec := { name := "arenaStale", fn := fun _ => fun
  | [d] => { results := [.lit (.bool true)], args := [d] }
  | _ => none }
def arenaStaleRow : OpenClaim := { program := "ytamecmklcnohjaagreat", sum := "d1d6b2b021667f062efd0ab4cd00373b7c3ecc766d88613140f53cca4041d010", func := "steading/steadinglaw18.ArenaStale", spec := "arenaStale", unfollowed := true, recurses := true, plainKeys := false, apart := false }
def ArenaStaleSaid : Prop := arenaStaleRow.holds Tryz.pinned (OpenSpec.ofChange arenaStaleSpec)

/-- ITS FALSE NEIGHBOUR: 'it returns false'. Refute it at one input. -/
def arenaStaleWrong : ChangeSpec := { name := "arenaStale", fn := fun _ => fun
  | [d] => { results := [.lit (.bool false)], args := [d] }
  | _ => none }
def ArenaStaleWrongFalsely : Prop := arenaStaleRow.holds Tryz.pinned (OpenSpec.ofChange arenaStaleWrong)

/-- 'steadinglaw18.ArenaAll': WHATEVER THE INPUT: true; the input reads as it did. -/
def arenaAllSpec : ChangeSpec := { name := "arenaAll", fn := fun _ => fun
  | [d1, d2] => { results := [.lit (.bool true)], args := [d1, d2] }
  | _ => none }
def arenaAllRow : OpenClaim := { program := "ytamecmklcnohjaagreat", sum := "d1d6b2b021667f062efd0ab4cd00373b7c3ecc766d88613140f53cca4041d010", func := "steading/steadinglaw18.ArenaAll", spec := "arenaAll", unfollowed := true, recurses := true, plainKeys := false, apart := false }
def ArenaAllSaid : Prop := arenaAllRow.holds Tryz.pinned (OpenSpec.ofChange arenaAllSpec)

/-- ITS FALSE NEIGHBOUR: 'it returns false'. Refute it at one input. -/
def arenaAllWrong : ChangeSpec := { name := "arenaAll", fn := fun _ => fun
  | [d1, d2] => { results := [.lit (.bool false)], args := [d1, d2] }
  | _ => none }
def ArenaAllWrongFalsely : Prop := arenaAllRow.holds Tryz.pinned (OpenSpec.ofChange arenaAllWrong)

/-- 'steadinglaw18.ArenaBack': WHATEVER THE INPUT: true; the input reads as it did. -/
def arenaBackSpec : ChangeSpec := { name := "arenaBack", fn := fun _ => fun
  | [d1, d2, d3] => { results := [.lit (.bool true)], args := [d1, d2, d3] }
  | _ => none }
def arenaBackRow : OpenClaim := { program := "ytamecmklcnohjaagreat", sum := "d1d6b2b021667f062efd0ab4cd00373b7c3ecc766d88613140f53cca4041d010", func := "steading/steadinglaw18.ArenaBack", spec := "arenaBack", unfollowed := true, recurses := true, plainKeys := false, apart := false }
def ArenaBackSaid : Prop := arenaBackRow.holds Tryz.pinned (OpenSpec.ofChange arenaBackSpec)

/-- ITS FALSE NEIGHBOUR: 'it returns false'. Refute it at one input. -/
def arenaBackWrong : ChangeSpec := { name := "arenaBack", fn := fun _ => fun
  | [d1, d2, d3] => { results := [.lit (.bool false)], args := [d1, d2, d3] }
  | _ => none }
def ArenaBackWrongFalsely : Prop := arenaBackRow.holds Tryz.pinned (OpenSpec.ofChange arenaBackWrong)

/-- 'steadinglaw18.ArenaMeter': WHATEVER THE INPUT: true; the input reads as it did. -/
def arenaMeterSpec : ChangeSpec := { name := "arenaMeter", fn := fun _ => fun
  | [d1, d2] => { results := [.lit (.bool true)], args := [d1, d2] }
  | _ => none }
def arenaMeterRow : OpenClaim := { program := "ytamecmklcnohjaagreat", sum := "d1d6b2b021667f062efd0ab4cd00373b7c3ecc766d88613140f53cca4041d010", func := "steading/steadinglaw18.ArenaMeter", spec := "arenaMeter", unfollowed := true, recurses := true, plainKeys := false, apart := false }
def ArenaMeterSaid : Prop := arenaMeterRow.holds Tryz.pinned (OpenSpec.ofChange arenaMeterSpec)

/-- ITS FALSE NEIGHBOUR: 'it returns false'. Refute it at one input. -/
def arenaMeterWrong : ChangeSpec := { name := "arenaMeter", fn := fun _ => fun
  | [d1, d2] => { results := [.lit (.bool false)], args := [d1, d2] }
  | _ => none }
def ArenaMeterWrongFalsely : Prop := arenaMeterRow.holds Tryz.pinned (OpenSpec.ofChange arenaMeterWrong)

/-- 'steadinglaw18.ArenaFails': WHATEVER THE INPUT: true; the input reads as it did. -/
def arenaFailsSpec : ChangeSpec := { name := "arenaFails", fn := fun _ => fun
  | [d1, d2] => { results := [.lit (.bool true)], args := [d1, d2] }
  | _ => none }
def arenaFailsRow : OpenClaim := { program := "ytamecmklcnohjaagreat", sum := "d1d6b2b021667f062efd0ab4cd00373b7c3ecc766d88613140f53cca4041d010", func := "steading/steadinglaw18.ArenaFails", spec := "arenaFails", unfollowed := true, recurses := true, plainKeys := false, apart := false }
def ArenaFailsSaid : Prop := arenaFailsRow.holds Tryz.pinned (OpenSpec.ofChange arenaFailsSpec)

/-- ITS FALSE NEIGHBOUR: 'it returns false'. Refute it at one input. -/
def arenaFailsWrong : ChangeSpec := { name := "arenaFails", fn := fun _ => fun
  | [d1, d2] => { results := [.lit (.bool false)], args := [d1, d2] }
  | _ => none }
def ArenaFailsWrongFalsely : Prop := arenaFailsRow.holds Tryz.pinned (OpenSpec.ofChange arenaFailsWrong)

/-- 'steadinglaw18.ArenaAligned': WHATEVER THE INPUT: true; the input reads as it did. -/
def arenaAlignedSpec : ChangeSpec := { name := "arenaAligned", fn := fun _ => fun
  | [d1, d2] => { results := [.lit (.bool true)], args := [d1, d2] }
  | _ => none }
def arenaAlignedRow : OpenClaim := { program := "ytamecmklcnohjaagreat", sum := "d1d6b2b021667f062efd0ab4cd00373b7c3ecc766d88613140f53cca4041d010", func := "steading/steadinglaw18.ArenaAligned", spec := "arenaAligned", unfollowed := true, recurses := true, plainKeys := false, apart := false }
def ArenaAlignedSaid : Prop := arenaAlignedRow.holds Tryz.pinned (OpenSpec.ofChange arenaAlignedSpec)

/-- ITS FALSE NEIGHBOUR: 'it returns false'. Refute it at one input. -/
def arenaAlignedWrong : ChangeSpec := { name := "arenaAligned", fn := fun _ => fun
  | [d1, d2] => { results := [.lit (.bool false)], args := [d1, d2] }
  | _ => none }
def ArenaAlignedWrongFalsely : Prop := arenaAlignedRow.holds Tryz.pinned (OpenSpec.ofChange arenaAlignedWrong)

/- THE SECOND FORM. 'bulk': how many values and letters a reading holds, each counted each time it is reached (what is shared counts as often as it is met; a slice's spare places count too). A statement '..UptoSaid' is the law's where the arguments, and the package variables that the reading takes, are together of bulk at most 1048576: NARROWER than '..Said'. Prove '..Said' where nothing that the law and all that it calls make is longer than what came in: it says more and counts as full. Else prove '..UptoSaid'. A law counts once. -/
mutual
def uptoBulk {H : Type} : DataW H → Nat
  | .lit (.string bytes) => bytes.length + 1
  | .lit _ => 1
  | .nil => 1
  | .ptr d => uptoBulk d + 1
  | .slice elems spare => uptoBulkAll elems + uptoBulkAll spare + 1
  | .agg parts => uptoBulkAll parts + 1
  | .iface _ d => uptoBulk d + 1
  | .map entries => uptoBulkEntries entries + 1
  | .held _ => 1
def uptoBulkAll {H : Type} : List (DataW H) → Nat
  | [] => 0
  | d :: r => uptoBulk d + uptoBulkAll r
def uptoBulkEntries {H : Type} : List (Lit × DataW H) → Nat
  | [] => 0
  | x :: r => uptoBulkEntry x + uptoBulkEntries r
def uptoBulkEntry {H : Type} : Lit × DataW H → Nat
  | (.string bytes, d) => bytes.length + uptoBulk d + 1
  | (_, d) => uptoBulk d + 1
 end
def uptoSmall : (H : Type) → List (DataW H) → Bool := fun _ ds => decide (uptoBulkAll ds ≤ 1048576)
def OpenSpec.upto (s : _root_.Go.ChangeSpec) : _root_.Go.OpenSpec := { _root_.Go.OpenSpec.ofChange s with cond := some uptoSmall }

/-- 'steadinglaw19.LedgerRegions', WHERE WHAT IT READS IS OF BULK AT MOST 1048576: true; the input reads as it did. -/
def ledgerRegionsUptoRow : OpenClaim := { program := "ytamecmklcnohjaagreat", sum := "d1d6b2b021667f062efd0ab4cd00373b7c3ecc766d88613140f53cca4041d010", func := "steading/steadinglaw19.LedgerRegions", spec := "ledgerRegions", unfollowed := true, recurses := true, plainKeys := false, apart := false, narrowed := true }
def LedgerRegionsUptoSaid : Prop := ledgerRegionsUptoRow.holds Tryz.pinned (OpenSpec.upto ledgerRegionsSpec)

/-- 'steadinglaw18.ArenaNested', WHERE WHAT IT READS IS OF BULK AT MOST 1048576: true; the input reads as it did. -/
def arenaNestedUptoRow : OpenClaim := { program := "ytamecmklcnohjaagreat", sum := "d1d6b2b021667f062efd0ab4cd00373b7c3ecc766d88613140f53cca4041d010", func := "steading/steadinglaw18.ArenaNested", spec := "arenaNested", unfollowed := true, recurses := true, plainKeys := false, apart := false, narrowed := true }
def ArenaNestedUptoSaid : Prop := arenaNestedUptoRow.holds Tryz.pinned (OpenSpec.upto arenaNestedSpec)

/-- 'steadinglaw18.ArenaMarks', WHERE WHAT IT READS IS OF BULK AT MOST 1048576: true; the input reads as it did. -/
def arenaMarksUptoRow : OpenClaim := { program := "ytamecmklcnohjaagreat", sum := "d1d6b2b021667f062efd0ab4cd00373b7c3ecc766d88613140f53cca4041d010", func := "steading/steadinglaw18.ArenaMarks", spec := "arenaMarks", unfollowed := true, recurses := true, plainKeys := false, apart := false, narrowed := true }
def ArenaMarksUptoSaid : Prop := arenaMarksUptoRow.holds Tryz.pinned (OpenSpec.upto arenaMarksSpec)

/-- 'steadinglaw18.ArenaBytes', WHERE WHAT IT READS IS OF BULK AT MOST 1048576: true; the input reads as it did. -/
def arenaBytesUptoRow : OpenClaim := { program := "ytamecmklcnohjaagreat", sum := "d1d6b2b021667f062efd0ab4cd00373b7c3ecc766d88613140f53cca4041d010", func := "steading/steadinglaw18.ArenaBytes", spec := "arenaBytes", unfollowed := true, recurses := true, plainKeys := false, apart := false, narrowed := true }
def ArenaBytesUptoSaid : Prop := arenaBytesUptoRow.holds Tryz.pinned (OpenSpec.upto arenaBytesSpec)

/-- 'steadinglaw18.ArenaStale', WHERE WHAT IT READS IS OF BULK AT MOST 1048576: true; the input reads as it did. -/
def arenaStaleUptoRow : OpenClaim := { program := "ytamecmklcnohjaagreat", sum := "d1d6b2b021667f062efd0ab4cd00373b7c3ecc766d88613140f53cca4041d010", func := "steading/steadinglaw18.ArenaStale", spec := "arenaStale", unfollowed := true, recurses := true, plainKeys := false, apart := false, narrowed := true }
def ArenaStaleUptoSaid : Prop := arenaStaleUptoRow.holds Tryz.pinned (OpenSpec.upto arenaStaleSpec)

/-- 'steadinglaw18.ArenaAll', WHERE WHAT IT READS IS OF BULK AT MOST 1048576: true; the input reads as it did. -/
def arenaAllUptoRow : OpenClaim := { program := "ytamecmklcnohjaagreat", sum := "d1d6b2b021667f062efd0ab4cd00373b7c3ecc766d88613140f53cca4041d010", func := "steading/steadinglaw18.ArenaAll", spec := "arenaAll", unfollowed := true, recurses := true, plainKeys := false, apart := false, narrowed := true }
def ArenaAllUptoSaid : Prop := arenaAllUptoRow.holds Tryz.pinned (OpenSpec.upto arenaAllSpec)

/-- 'steadinglaw18.ArenaBack', WHERE WHAT IT READS IS OF BULK AT MOST 1048576: true; the input reads as it did. -/
def arenaBackUptoRow : OpenClaim := { program := "ytamecmklcnohjaagreat", sum := "d1d6b2b021667f062efd0ab4cd00373b7c3ecc766d88613140f53cca4041d010", func := "steading/steadinglaw18.ArenaBack", spec := "arenaBack", unfollowed := true, recurses := true, plainKeys := false, apart := false, narrowed := true }
def ArenaBackUptoSaid : Prop := arenaBackUptoRow.holds Tryz.pinned (OpenSpec.upto arenaBackSpec)

/-- 'steadinglaw18.ArenaMeter', WHERE WHAT IT READS IS OF BULK AT MOST 1048576: true; the input reads as it did. -/
def arenaMeterUptoRow : OpenClaim := { program := "ytamecmklcnohjaagreat", sum := "d1d6b2b021667f062efd0ab4cd00373b7c3ecc766d88613140f53cca4041d010", func := "steading/steadinglaw18.ArenaMeter", spec := "arenaMeter", unfollowed := true, recurses := true, plainKeys := false, apart := false, narrowed := true }
def ArenaMeterUptoSaid : Prop := arenaMeterUptoRow.holds Tryz.pinned (OpenSpec.upto arenaMeterSpec)

/-- 'steadinglaw18.ArenaFails', WHERE WHAT IT READS IS OF BULK AT MOST 1048576: true; the input reads as it did. -/
def arenaFailsUptoRow : OpenClaim := { program := "ytamecmklcnohjaagreat", sum := "d1d6b2b021667f062efd0ab4cd00373b7c3ecc766d88613140f53cca4041d010", func := "steading/steadinglaw18.ArenaFails", spec := "arenaFails", unfollowed := true, recurses := true, plainKeys := false, apart := false, narrowed := true }
def ArenaFailsUptoSaid : Prop := arenaFailsUptoRow.holds Tryz.pinned (OpenSpec.upto arenaFailsSpec)

/-- 'steadinglaw18.ArenaAligned', WHERE WHAT IT READS IS OF BULK AT MOST 1048576: true; the input reads as it did. -/
def arenaAlignedUptoRow : OpenClaim := { program := "ytamecmklcnohjaagreat", sum := "d1d6b2b021667f062efd0ab4cd00373b7c3ecc766d88613140f53cca4041d010", func := "steading/steadinglaw18.ArenaAligned", spec := "arenaAligned", unfollowed := true, recurses := true, plainKeys := false, apart := false, narrowed := true }
def ArenaAlignedUptoSaid : Prop := arenaAlignedUptoRow.holds Tryz.pinned (OpenSpec.upto arenaAlignedSpec)

end Rows
end Go.Proofs.YtamecmklcnohjaaGreat
