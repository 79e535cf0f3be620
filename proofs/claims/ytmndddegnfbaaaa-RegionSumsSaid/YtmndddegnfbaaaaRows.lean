/-
  No cell of these rows narrows 'for every input' (looked for: loops, veiled, ifaces, maps, wideKeys, modest, calm, conditions, laid).
  DERIVED. THE GIVEN ROWS OF THIS SEAT. 8 by the template 'for every input the law returns true; each argument reads behind the call as it read before'; 0 by the template 'total and deterministic' (their statements: YtmndddegnfbaaaaTotals.lean).
  GIVEN WITH THE SEED: the statements are not yours to turn. If you find one false, say at which input.
  Laid BY PROGRAM, IN A SANDBOX (cutbox-rows.mjs): the forced cells as the released guide's own fill.sh prints them over the translation 130e127abf5bca82… (all of the seat's roots in one cut). By AI agents, Wed Nov 11 2026. No macro, syntax, notation, axiom, sorry.
-/
import Derived.Test.YtmndddegnfbaaaaChecked
import GoSem.Claim
import GoSem.ClaimJoined
import GoSem.ClaimMapViews
import Derived.JoinedTies
import Derived.KernelRfl
namespace Go.Proofs.Ytmndddegnfbaaaa
/- THE CELL 'sum', in the pinned program and in every row, IS THE sha256 OF THE DUMP (.gsa) THAT YtmndddegnfbaaaaProg.lean LOADS. Nothing in Lean hashes anything: it is a label: what it is worth is what the hold of that sum in a sandbox is worth. -/
noncomputable def Try.pinned : Pinned := { name := "ytmndddegnfbaaaa", sum := "130e127abf5bca8210364b29b49d4a5cee8cbcdc51e5f353840a0580cdef9f64", checked := Try.checked }
namespace Rows
def none {H : Type} : Left H := { results := [], args := [] }

/-- 'steadinglaw14.PileWalk': WHATEVER THE INPUT: true; the input reads as it did. -/
def pileWalkSpec : ChangeSpec := { name := "pileWalk", fn := fun _ => fun
  | [d1, d2, d3] => { results := [.lit (.bool true)], args := [d1, d2, d3] }
  | _ => none }
def pileWalkRow : OpenClaim := { program := "ytmndddegnfbaaaa", sum := "130e127abf5bca8210364b29b49d4a5cee8cbcdc51e5f353840a0580cdef9f64", func := "steading/steadinglaw14.PileWalk", spec := "pileWalk", unfollowed := true, recurses := true, plainKeys := false, apart := false }
def PileWalkSaid : Prop := pileWalkRow.holds Try.pinned (OpenSpec.ofChange pileWalkSpec)

/-- ITS FALSE NEIGHBOUR: 'it returns false'. Refute it at one input. -/
def pileWalkWrong : ChangeSpec := { name := "pileWalk", fn := fun _ => fun
  | [d1, d2, d3] => { results := [.lit (.bool false)], args := [d1, d2, d3] }
  | _ => none }
def PileWalkWrongFalsely : Prop := pileWalkRow.holds Try.pinned (OpenSpec.ofChange pileWalkWrong)

/-- 'steadinglaw14.PileTwo': WHATEVER THE INPUT: true; the input reads as it did. -/
def pileTwoSpec : ChangeSpec := { name := "pileTwo", fn := fun _ => fun
  | [d1, d2] => { results := [.lit (.bool true)], args := [d1, d2] }
  | _ => none }
def pileTwoRow : OpenClaim := { program := "ytmndddegnfbaaaa", sum := "130e127abf5bca8210364b29b49d4a5cee8cbcdc51e5f353840a0580cdef9f64", func := "steading/steadinglaw14.PileTwo", spec := "pileTwo", unfollowed := true, recurses := true, plainKeys := false, apart := false }
def PileTwoSaid : Prop := pileTwoRow.holds Try.pinned (OpenSpec.ofChange pileTwoSpec)

/-- ITS FALSE NEIGHBOUR: 'it returns false'. Refute it at one input. -/
def pileTwoWrong : ChangeSpec := { name := "pileTwo", fn := fun _ => fun
  | [d1, d2] => { results := [.lit (.bool false)], args := [d1, d2] }
  | _ => none }
def PileTwoWrongFalsely : Prop := pileTwoRow.holds Try.pinned (OpenSpec.ofChange pileTwoWrong)

/-- 'steadinglaw14.PileCut': WHATEVER THE INPUT: true; the input reads as it did. -/
def pileCutSpec : ChangeSpec := { name := "pileCut", fn := fun _ => fun
  | [d1, d2] => { results := [.lit (.bool true)], args := [d1, d2] }
  | _ => none }
def pileCutRow : OpenClaim := { program := "ytmndddegnfbaaaa", sum := "130e127abf5bca8210364b29b49d4a5cee8cbcdc51e5f353840a0580cdef9f64", func := "steading/steadinglaw14.PileCut", spec := "pileCut", unfollowed := true, recurses := true, plainKeys := false, apart := false }
def PileCutSaid : Prop := pileCutRow.holds Try.pinned (OpenSpec.ofChange pileCutSpec)

/-- ITS FALSE NEIGHBOUR: 'it returns false'. Refute it at one input. -/
def pileCutWrong : ChangeSpec := { name := "pileCut", fn := fun _ => fun
  | [d1, d2] => { results := [.lit (.bool false)], args := [d1, d2] }
  | _ => none }
def PileCutWrongFalsely : Prop := pileCutRow.holds Try.pinned (OpenSpec.ofChange pileCutWrong)

/-- 'steadinglaw15.RegionTwo': WHATEVER THE INPUT: true; the input reads as it did. -/
def regionTwoSpec : ChangeSpec := { name := "regionTwo", fn := fun _ => fun
  | [d] => { results := [.lit (.bool true)], args := [d] }
  | _ => none }
def regionTwoRow : OpenClaim := { program := "ytmndddegnfbaaaa", sum := "130e127abf5bca8210364b29b49d4a5cee8cbcdc51e5f353840a0580cdef9f64", func := "steading/steadinglaw15.RegionTwo", spec := "regionTwo", unfollowed := true, recurses := true, plainKeys := false, apart := false }
def RegionTwoSaid : Prop := regionTwoRow.holds Try.pinned (OpenSpec.ofChange regionTwoSpec)

/-- ITS FALSE NEIGHBOUR: 'it returns false'. Refute it at one input. -/
def regionTwoWrong : ChangeSpec := { name := "regionTwo", fn := fun _ => fun
  | [d] => { results := [.lit (.bool false)], args := [d] }
  | _ => none }
def RegionTwoWrongFalsely : Prop := regionTwoRow.holds Try.pinned (OpenSpec.ofChange regionTwoWrong)

/-- 'steadinglaw15.RegionBack': WHATEVER THE INPUT: true; the input reads as it did. -/
def regionBackSpec : ChangeSpec := { name := "regionBack", fn := fun _ => fun
  | [d1, d2, d3, d4] => { results := [.lit (.bool true)], args := [d1, d2, d3, d4] }
  | _ => none }
def regionBackRow : OpenClaim := { program := "ytmndddegnfbaaaa", sum := "130e127abf5bca8210364b29b49d4a5cee8cbcdc51e5f353840a0580cdef9f64", func := "steading/steadinglaw15.RegionBack", spec := "regionBack", unfollowed := true, recurses := true, plainKeys := false, apart := false }
def RegionBackSaid : Prop := regionBackRow.holds Try.pinned (OpenSpec.ofChange regionBackSpec)

/-- ITS FALSE NEIGHBOUR: 'it returns false'. Refute it at one input. -/
def regionBackWrong : ChangeSpec := { name := "regionBack", fn := fun _ => fun
  | [d1, d2, d3, d4] => { results := [.lit (.bool false)], args := [d1, d2, d3, d4] }
  | _ => none }
def RegionBackWrongFalsely : Prop := regionBackRow.holds Try.pinned (OpenSpec.ofChange regionBackWrong)

/-- 'steadinglaw15.RegionSums': WHATEVER THE INPUT: true; the input reads as it did. -/
def regionSumsSpec : ChangeSpec := { name := "regionSums", fn := fun _ => fun
  | [d1, d2] => { results := [.lit (.bool true)], args := [d1, d2] }
  | _ => none }
def regionSumsRow : OpenClaim := { program := "ytmndddegnfbaaaa", sum := "130e127abf5bca8210364b29b49d4a5cee8cbcdc51e5f353840a0580cdef9f64", func := "steading/steadinglaw15.RegionSums", spec := "regionSums", unfollowed := true, recurses := true, plainKeys := false, apart := false }
def RegionSumsSaid : Prop := regionSumsRow.holds Try.pinned (OpenSpec.ofChange regionSumsSpec)

/-- ITS FALSE NEIGHBOUR: 'it returns false'. Refute it at one input. -/
def regionSumsWrong : ChangeSpec := { name := "regionSums", fn := fun _ => fun
  | [d1, d2] => { results := [.lit (.bool false)], args := [d1, d2] }
  | _ => none }
def RegionSumsWrongFalsely : Prop := regionSumsRow.holds Try.pinned (OpenSpec.ofChange regionSumsWrong)

/-- 'steadinglaw15.RegionApart': WHATEVER THE INPUT: true; the input reads as it did. -/
def regionApartSpec : ChangeSpec := { name := "regionApart", fn := fun _ => fun
  | [d] => { results := [.lit (.bool true)], args := [d] }
  | _ => none }
def regionApartRow : OpenClaim := { program := "ytmndddegnfbaaaa", sum := "130e127abf5bca8210364b29b49d4a5cee8cbcdc51e5f353840a0580cdef9f64", func := "steading/steadinglaw15.RegionApart", spec := "regionApart", unfollowed := true, recurses := true, plainKeys := false, apart := false }
def RegionApartSaid : Prop := regionApartRow.holds Try.pinned (OpenSpec.ofChange regionApartSpec)

/-- ITS FALSE NEIGHBOUR: 'it returns false'. Refute it at one input. -/
def regionApartWrong : ChangeSpec := { name := "regionApart", fn := fun _ => fun
  | [d] => { results := [.lit (.bool false)], args := [d] }
  | _ => none }
def RegionApartWrongFalsely : Prop := regionApartRow.holds Try.pinned (OpenSpec.ofChange regionApartWrong)

/-- 'steadinglaw15.RegionLarge': WHATEVER THE INPUT: true; the input reads as it did. -/
def regionLargeSpec : ChangeSpec := { name := "regionLarge", fn := fun _ => fun
  | [d1, d2, d3] => { results := [.lit (.bool true)], args := [d1, d2, d3] }
  | _ => none }
def regionLargeRow : OpenClaim := { program := "ytmndddegnfbaaaa", sum := "130e127abf5bca8210364b29b49d4a5cee8cbcdc51e5f353840a0580cdef9f64", func := "steading/steadinglaw15.RegionLarge", spec := "regionLarge", unfollowed := true, recurses := true, plainKeys := false, apart := false }
def RegionLargeSaid : Prop := regionLargeRow.holds Try.pinned (OpenSpec.ofChange regionLargeSpec)

/-- ITS FALSE NEIGHBOUR: 'it returns false'. Refute it at one input. -/
def regionLargeWrong : ChangeSpec := { name := "regionLarge", fn := fun _ => fun
  | [d1, d2, d3] => { results := [.lit (.bool false)], args := [d1, d2, d3] }
  | _ => none }
def RegionLargeWrongFalsely : Prop := regionLargeRow.holds Try.pinned (OpenSpec.ofChange regionLargeWrong)

/- THE SECOND FORM. 'bulk': how many values and letters a reading holds, each counted each time it is reached (what is shared counts as often as it is met; a slice's spare places count too). A statement '..UptoSaid' is the law's where the arguments, and the package variables that the reading takes, are together of bulk at most 1048576: NARROWER than '..Said'. Prove '..Said' where nothing that the law and all that it calls make is longer than what came in: it says more and counts as full. Else prove '..UptoSaid'. A law counts once. -/
mutual
def uptoBulk {H : Type} : DataW H → Nat
  | .lit (.string bytes) => bytes.length + 1
  | .lit _ => 1
  | .nil => 1
  | .ptr d => uptoBulk d + 1
  | .slice elems spare => uptoBulkAll elems + uptoBulkAll spare + 1
  | .agg parts => uptoBulkAll parts + 1
  | .iface _ d => uptoBulk d + 1
  | .map entries => uptoBulkEntries entries + 1
  | .held _ => 1
def uptoBulkAll {H : Type} : List (DataW H) → Nat
  | [] => 0
  | d :: r => uptoBulk d + uptoBulkAll r
def uptoBulkEntries {H : Type} : List (Lit × DataW H) → Nat
  | [] => 0
  | x :: r => uptoBulkEntry x + uptoBulkEntries r
def uptoBulkEntry {H : Type} : Lit × DataW H → Nat
  | (.string bytes, d) => bytes.length + uptoBulk d + 1
  | (_, d) => uptoBulk d + 1
 end
def uptoSmall : (H : Type) → List (DataW H) → Bool := fun _ ds => decide (uptoBulkAll ds ≤ 1048576)
def OpenSpec.upto (s : _root_.Go.ChangeSpec) : _root_.Go.OpenSpec := { _root_.Go.OpenSpec.ofChange s with cond := some uptoSmall }

/-- 'steadinglaw14.PileWalk', WHERE WHAT IT READS IS OF BULK AT MOST 1048576: true; the input reads as it did. -/
def pileWalkUptoRow : OpenClaim := { program := "ytmndddegnfbaaaa", sum := "130e127abf5bca8210364b29b49d4a5cee8cbcdc51e5f353840a0580cdef9f64", func := "steading/steadinglaw14.PileWalk", spec := "pileWalk", unfollowed := true, recurses := true, plainKeys := false, apart := false, narrowed := true }
def PileWalkUptoSaid : Prop := pileWalkUptoRow.holds Try.pinned (OpenSpec.upto pileWalkSpec)

/-- 'steadinglaw14.PileTwo', WHERE WHAT IT READS IS OF BULK AT MOST 1048576: true; the input reads as it did. -/
def pileTwoUptoRow : OpenClaim := { program := "ytmndddegnfbaaaa", sum := "130e127abf5bca8210364b29b49d4a5cee8cbcdc51e5f353840a0580cdef9f64", func := "steading/steadinglaw14.PileTwo", spec := "pileTwo", unfollowed := true, recurses := true, plainKeys := false, apart := false, narrowed := true }
def PileTwoUptoSaid : Prop := pileTwoUptoRow.holds Try.pinned (OpenSpec.upto pileTwoSpec)

/-- 'steadinglaw14.PileCut', WHERE WHAT IT READS IS OF BULK AT MOST 1048576: true; the input reads as it did. -/
def pileCutUptoRow : OpenClaim := { program := "ytmndddegnfbaaaa", sum := "130e127abf5bca8210364b29b49d4a5cee8cbcdc51e5f353840a0580cdef9f64", func := "steading/steadinglaw14.PileCut", spec := "pileCut", unfollowed := true, recurses := true, plainKeys := false, apart := false, narrowed := true }
def PileCutUptoSaid : Prop := pileCutUptoRow.holds Try.pinned (OpenSpec.upto pileCutSpec)

/-- 'steadinglaw15.RegionTwo', WHERE WHAT IT READS IS OF BULK AT MOST 1048576: true; the input reads as it did. -/
def regionTwoUptoRow : OpenClaim := { program := "ytmndddegnfbaaaa", sum := "130e127abf5bca8210364b29b49d4a5cee8cbcdc51e5f353840a0580cdef9f64", func := "steading/steadinglaw15.RegionTwo", spec := "regionTwo", unfollowed := true, recurses := true, plainKeys := false, apart := false, narrowed := true }
def RegionTwoUptoSaid : Prop := regionTwoUptoRow.holds Try.pinned (OpenSpec.upto regionTwoSpec)

/-- 'steadinglaw15.RegionBack', WHERE WHAT IT READS IS OF BULK AT MOST 1048576: true; the input reads as it did. -/
def regionBackUptoRow : OpenClaim := { program := "ytmndddegnfbaaaa", sum := "130e127abf5bca8210364b29b49d4a5cee8cbcdc51e5f353840a0580cdef9f64", func := "steading/steadinglaw15.RegionBack", spec := "regionBack", unfollowed := true, recurses := true, plainKeys := false, apart := false, narrowed := true }
def RegionBackUptoSaid : Prop := regionBackUptoRow.holds Try.pinned (OpenSpec.upto regionBackSpec)

/-- 'steadinglaw15.RegionSums', WHERE WHAT IT READS IS OF BULK AT MOST 1048576: true; the input reads as it did. -/
def regionSumsUptoRow : OpenClaim := { program := "ytmndddegnfbaaaa", sum := "130e127abf5bca8210364b29b49d4a5cee8cbcdc51e5f353840a0580cdef9f64", func := "steading/steadinglaw15.RegionSums", spec := "regionSums", unfollowed := true, recurses := true, plainKeys := false, apart := false, narrowed := true }
def RegionSumsUptoSaid : Prop := regionSumsUptoRow.holds Try.pinned (OpenSpec.upto regionSumsSpec)

/-- 'steadinglaw15.RegionApart', WHERE WHAT IT READS IS OF BULK AT MOST 1048576: true; the input reads as it did. -/
def regionApartUptoRow : OpenClaim := { program := "ytmndddegnfbaaaa", sum := "130e127abf5bca8210364b29b49d4a5cee8cbcdc51e5f353840a0580cdef9f64", func := "steading/steadinglaw15.RegionApart", spec := "regionApart", unfollowed := true, recurses := true, plainKeys := false, apart := false, narrowed := true }
def RegionApartUptoSaid : Prop := regionApartUptoRow.holds Try.pinned (OpenSpec.upto regionApartSpec)

/-- 'steadinglaw15.RegionLarge', WHERE WHAT IT READS IS OF BULK AT MOST 1048576: true; the input reads as it did. -/
def regionLargeUptoRow : OpenClaim := { program := "ytmndddegnfbaaaa", sum := "130e127abf5bca8210364b29b49d4a5cee8cbcdc51e5f353840a0580cdef9f64", func := "steading/steadinglaw15.RegionLarge", spec := "regionLarge", unfollowed := true, recurses := true, plainKeys := false, apart := false, narrowed := true }
def RegionLargeUptoSaid : Prop := regionLargeUptoRow.holds Try.pinned (OpenSpec.upto regionLargeSpec)

end Rows
end Go.Proofs.Ytmndddegnfbaaaa
