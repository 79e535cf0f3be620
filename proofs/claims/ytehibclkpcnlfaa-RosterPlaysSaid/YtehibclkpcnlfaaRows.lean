/-
  No cell of these rows narrows 'for every input' (looked for: loops, veiled, ifaces, maps, wideKeys, modest, calm, conditions, laid).
  DERIVED. THE GIVEN ROWS OF THIS SEAT. 4 by the template 'for every input the law returns true; each argument reads behind the call as it read before'; 0 by the template 'total and deterministic' (their statements: YtehibclkpcnlfaaTotals.lean).
  GIVEN WITH THE SEED: the statements are not yours to turn. If you find one false, say at which input.
  Laid BY PROGRAM, IN A SANDBOX (cutbox-rows.mjs): the forced cells as the released guide's own fill.sh prints them over the translation c756a307cabaf4bc… (all of the seat's roots in one cut). By AI agents, Wed Nov 11 2026. No macro, syntax, notation, axiom, sorry.
-/
import Derived.Test.YtehibclkpcnlfaaChecked
import GoSem.Claim
import GoSem.ClaimJoined
import GoSem.ClaimMapViews
import Derived.JoinedTies
import Derived.KernelRfl
namespace Go.Proofs.Ytehibclkpcnlfaa
/- THE CELL 'sum', in the pinned program and in every row, IS THE sha256 OF THE DUMP (.gsa) THAT YtehibclkpcnlfaaProg.lean LOADS. Nothing in Lean hashes anything: it is a label: what it is worth is what the hold of that sum in a sandbox is worth. -/
noncomputable def Try.pinned : Pinned := { name := "ytehibclkpcnlfaa", sum := "c756a307cabaf4bc44a8f4541116a58f9a4cb5af2332673c386201a64de5b652", checked := Try.checked }
namespace Rows
def none {H : Type} : Left H := { results := [], args := [] }

/-- 'steadinglaw24.BoundGrows': WHATEVER THE INPUT: true; the input reads as it did. -/
def boundGrowsSpec : ChangeSpec := { name := "boundGrows", fn := fun _ => fun
  | [d1, d2, d3, d4] => { results := [.lit (.bool true)], args := [d1, d2, d3, d4] }
  | _ => none }
def boundGrowsRow : OpenClaim := { program := "ytehibclkpcnlfaa", sum := "c756a307cabaf4bc44a8f4541116a58f9a4cb5af2332673c386201a64de5b652", func := "steading/steadinglaw24.BoundGrows", spec := "boundGrows", plainKeys := false, apart := false }
def BoundGrowsSaid : Prop := boundGrowsRow.holds Try.pinned (OpenSpec.ofChange boundGrowsSpec)

/-- ITS FALSE NEIGHBOUR: 'it returns false'. Refute it at one input. -/
def boundGrowsWrong : ChangeSpec := { name := "boundGrows", fn := fun _ => fun
  | [d1, d2, d3, d4] => { results := [.lit (.bool false)], args := [d1, d2, d3, d4] }
  | _ => none }
def BoundGrowsWrongFalsely : Prop := boundGrowsRow.holds Try.pinned (OpenSpec.ofChange boundGrowsWrong)

/-- 'steadinglaw17.RosterPlays': WHATEVER THE INPUT: true; the input reads as it did. -/
def rosterPlaysSpec : ChangeSpec := { name := "rosterPlays", fn := fun _ => fun
  | [d] => { results := [.lit (.bool true)], args := [d] }
  | _ => none }
def rosterPlaysRow : OpenClaim := { program := "ytehibclkpcnlfaa", sum := "c756a307cabaf4bc44a8f4541116a58f9a4cb5af2332673c386201a64de5b652", func := "steading/steadinglaw17.RosterPlays", spec := "rosterPlays", plainKeys := false, apart := false }
def RosterPlaysSaid : Prop := rosterPlaysRow.holds Try.pinned (OpenSpec.ofChange rosterPlaysSpec)

/-- ITS FALSE NEIGHBOUR: 'it returns false'. Refute it at one input. -/
def rosterPlaysWrong : ChangeSpec := { name := "rosterPlays", fn := fun _ => fun
  | [d] => { results := [.lit (.bool false)], args := [d] }
  | _ => none }
def RosterPlaysWrongFalsely : Prop := rosterPlaysRow.holds Try.pinned (OpenSpec.ofChange rosterPlaysWrong)

/-- 'steadinglaw17.RosterApart': WHATEVER THE INPUT: true; the input reads as it did. -/
def rosterApartSpec : ChangeSpec := { name := "rosterApart", fn := fun _ => fun
  | [d1, d2, d3, d4, d5] => { results := [.lit (.bool true)], args := [d1, d2, d3, d4, d5] }
  | _ => none }
def rosterApartRow : OpenClaim := { program := "ytehibclkpcnlfaa", sum := "c756a307cabaf4bc44a8f4541116a58f9a4cb5af2332673c386201a64de5b652", func := "steading/steadinglaw17.RosterApart", spec := "rosterApart", plainKeys := false, apart := false }
def RosterApartSaid : Prop := rosterApartRow.holds Try.pinned (OpenSpec.ofChange rosterApartSpec)

/-- ITS FALSE NEIGHBOUR: 'it returns false'. Refute it at one input. -/
def rosterApartWrong : ChangeSpec := { name := "rosterApart", fn := fun _ => fun
  | [d1, d2, d3, d4, d5] => { results := [.lit (.bool false)], args := [d1, d2, d3, d4, d5] }
  | _ => none }
def RosterApartWrongFalsely : Prop := rosterApartRow.holds Try.pinned (OpenSpec.ofChange rosterApartWrong)

/-- 'steadinglaw17.RosterBack': WHATEVER THE INPUT: true; the input reads as it did. -/
def rosterBackSpec : ChangeSpec := { name := "rosterBack", fn := fun _ => fun
  | [d1, d2, d3, d4] => { results := [.lit (.bool true)], args := [d1, d2, d3, d4] }
  | _ => none }
def rosterBackRow : OpenClaim := { program := "ytehibclkpcnlfaa", sum := "c756a307cabaf4bc44a8f4541116a58f9a4cb5af2332673c386201a64de5b652", func := "steading/steadinglaw17.RosterBack", spec := "rosterBack", plainKeys := false, apart := false }
def RosterBackSaid : Prop := rosterBackRow.holds Try.pinned (OpenSpec.ofChange rosterBackSpec)

/-- ITS FALSE NEIGHBOUR: 'it returns false'. Refute it at one input. -/
def rosterBackWrong : ChangeSpec := { name := "rosterBack", fn := fun _ => fun
  | [d1, d2, d3, d4] => { results := [.lit (.bool false)], args := [d1, d2, d3, d4] }
  | _ => none }
def RosterBackWrongFalsely : Prop := rosterBackRow.holds Try.pinned (OpenSpec.ofChange rosterBackWrong)

/- THE SECOND FORM. 'bulk': how many values and letters a reading holds, each counted each time it is reached (what is shared counts as often as it is met; a slice's spare places count too). A statement '..UptoSaid' is the law's where the arguments, and the package variables that the reading takes, are together of bulk at most 1048576: NARROWER than '..Said'. Prove '..Said' where nothing that the law and all that it calls make is longer than what came in: it says more and counts as full. Else prove '..UptoSaid'. A law counts once. -/
mutual
def uptoBulk {H : Type} : DataW H → Nat
  | .lit (.string bytes) => bytes.length + 1
  | .lit _ => 1
  | .nil => 1
  | .ptr d => uptoBulk d + 1
  | .slice elems spare => uptoBulkAll elems + uptoBulkAll spare + 1
  | .agg parts => uptoBulkAll parts + 1
  | .iface _ d => uptoBulk d + 1
  | .map entries => uptoBulkEntries entries + 1
  | .held _ => 1
def uptoBulkAll {H : Type} : List (DataW H) → Nat
  | [] => 0
  | d :: r => uptoBulk d + uptoBulkAll r
def uptoBulkEntries {H : Type} : List (Lit × DataW H) → Nat
  | [] => 0
  | x :: r => uptoBulkEntry x + uptoBulkEntries r
def uptoBulkEntry {H : Type} : Lit × DataW H → Nat
  | (.string bytes, d) => bytes.length + uptoBulk d + 1
  | (_, d) => uptoBulk d + 1
 end
def uptoSmall : (H : Type) → List (DataW H) → Bool := fun _ ds => decide (uptoBulkAll ds ≤ 1048576)
def OpenSpec.upto (s : _root_.Go.ChangeSpec) : _root_.Go.OpenSpec := { _root_.Go.OpenSpec.ofChange s with cond := some uptoSmall }

/-- 'steadinglaw24.BoundGrows', WHERE WHAT IT READS IS OF BULK AT MOST 1048576: true; the input reads as it did. -/
def boundGrowsUptoRow : OpenClaim := { program := "ytehibclkpcnlfaa", sum := "c756a307cabaf4bc44a8f4541116a58f9a4cb5af2332673c386201a64de5b652", func := "steading/steadinglaw24.BoundGrows", spec := "boundGrows", plainKeys := false, apart := false, narrowed := true }
def BoundGrowsUptoSaid : Prop := boundGrowsUptoRow.holds Try.pinned (OpenSpec.upto boundGrowsSpec)

/-- 'steadinglaw17.RosterPlays', WHERE WHAT IT READS IS OF BULK AT MOST 1048576: true; the input reads as it did. -/
def rosterPlaysUptoRow : OpenClaim := { program := "ytehibclkpcnlfaa", sum := "c756a307cabaf4bc44a8f4541116a58f9a4cb5af2332673c386201a64de5b652", func := "steading/steadinglaw17.RosterPlays", spec := "rosterPlays", plainKeys := false, apart := false, narrowed := true }
def RosterPlaysUptoSaid : Prop := rosterPlaysUptoRow.holds Try.pinned (OpenSpec.upto rosterPlaysSpec)

/-- 'steadinglaw17.RosterApart', WHERE WHAT IT READS IS OF BULK AT MOST 1048576: true; the input reads as it did. -/
def rosterApartUptoRow : OpenClaim := { program := "ytehibclkpcnlfaa", sum := "c756a307cabaf4bc44a8f4541116a58f9a4cb5af2332673c386201a64de5b652", func := "steading/steadinglaw17.RosterApart", spec := "rosterApart", plainKeys := false, apart := false, narrowed := true }
def RosterApartUptoSaid : Prop := rosterApartUptoRow.holds Try.pinned (OpenSpec.upto rosterApartSpec)

/-- 'steadinglaw17.RosterBack', WHERE WHAT IT READS IS OF BULK AT MOST 1048576: true; the input reads as it did. -/
def rosterBackUptoRow : OpenClaim := { program := "ytehibclkpcnlfaa", sum := "c756a307cabaf4bc44a8f4541116a58f9a4cb5af2332673c386201a64de5b652", func := "steading/steadinglaw17.RosterBack", spec := "rosterBack", plainKeys := false, apart := false, narrowed := true }
def RosterBackUptoSaid : Prop := rosterBackUptoRow.holds Try.pinned (OpenSpec.upto rosterBackSpec)

end Rows
end Go.Proofs.Ytehibclkpcnlfaa
