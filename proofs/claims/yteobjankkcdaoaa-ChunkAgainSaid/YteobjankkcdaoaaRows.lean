/-
  No cell of these rows narrows 'for every input' (looked for: loops, veiled, ifaces, maps, wideKeys, modest, calm, conditions, laid).
  DERIVED. THE GIVEN ROWS OF THIS SEAT. 6 by the template 'for every input the law returns true; each argument reads behind the call as it read before'; 0 by the template 'total and deterministic' (their statements: YteobjankkcdaoaaTotals.lean).
  GIVEN WITH THE SEED: the statements are not yours to turn. If you find one false, say at which input.
  Laid BY PROGRAM, IN A SANDBOX (cutbox-rows.mjs): the forced cells as the released guide's own fill.sh prints them over the translation afcd2f218e7d7258… (all of the seat's roots in one cut). By AI agents, Wed Nov 11 2026. No macro, syntax, notation, axiom, sorry.
-/
import Derived.Test.YteobjankkcdaoaaChecked
import GoSem.Claim
import GoSem.ClaimJoined
import GoSem.ClaimMapViews
import Derived.JoinedTies
import Derived.KernelRfl
namespace Go.Proofs.Yteobjankkcdaoaa
/- THE CELL 'sum', in the pinned program and in every row, IS THE sha256 OF THE DUMP (.gsa) THAT YteobjankkcdaoaaProg.lean LOADS. Nothing in Lean hashes anything: it is a label: what it is worth is what the hold of that sum in a sandbox is worth. -/
noncomputable def Try.pinned : Pinned := { name := "yteobjankkcdaoaa", sum := "afcd2f218e7d7258133c6ab8214975a75479f6ce353bd7d6b549bff90a88e552", checked := Try.checked }
namespace Rows
def none {H : Type} : Left H := { results := [], args := [] }

/-- 'steadinglaw10.ChunkFull': WHATEVER THE INPUT: true; the input reads as it did. -/
def chunkFullSpec : ChangeSpec := { name := "chunkFull", fn := fun _ => fun
  | [d1, d2, d3] => { results := [.lit (.bool true)], args := [d1, d2, d3] }
  | _ => none }
def chunkFullRow : OpenClaim := { program := "yteobjankkcdaoaa", sum := "afcd2f218e7d7258133c6ab8214975a75479f6ce353bd7d6b549bff90a88e552", func := "steading/steadinglaw10.ChunkFull", spec := "chunkFull", unfollowed := true, recurses := true, plainKeys := false, apart := false }
def ChunkFullSaid : Prop := chunkFullRow.holds Try.pinned (OpenSpec.ofChange chunkFullSpec)

/-- ITS FALSE NEIGHBOUR: 'it returns false'. Refute it at one input. -/
def chunkFullWrong : ChangeSpec := { name := "chunkFull", fn := fun _ => fun
  | [d1, d2, d3] => { results := [.lit (.bool false)], args := [d1, d2, d3] }
  | _ => none }
def ChunkFullWrongFalsely : Prop := chunkFullRow.holds Try.pinned (OpenSpec.ofChange chunkFullWrong)

/-- 'steadinglaw10.ChunkKinds': WHATEVER THE INPUT: true; the input reads as it did. -/
def chunkKindsSpec : ChangeSpec := { name := "chunkKinds", fn := fun _ => fun
  | [d1, d2] => { results := [.lit (.bool true)], args := [d1, d2] }
  | _ => none }
def chunkKindsRow : OpenClaim := { program := "yteobjankkcdaoaa", sum := "afcd2f218e7d7258133c6ab8214975a75479f6ce353bd7d6b549bff90a88e552", func := "steading/steadinglaw10.ChunkKinds", spec := "chunkKinds", unfollowed := true, recurses := true, plainKeys := false, apart := false }
def ChunkKindsSaid : Prop := chunkKindsRow.holds Try.pinned (OpenSpec.ofChange chunkKindsSpec)

/-- ITS FALSE NEIGHBOUR: 'it returns false'. Refute it at one input. -/
def chunkKindsWrong : ChangeSpec := { name := "chunkKinds", fn := fun _ => fun
  | [d1, d2] => { results := [.lit (.bool false)], args := [d1, d2] }
  | _ => none }
def ChunkKindsWrongFalsely : Prop := chunkKindsRow.holds Try.pinned (OpenSpec.ofChange chunkKindsWrong)

/-- 'steadinglaw10.ChunkApart': WHATEVER THE INPUT: true; the input reads as it did. -/
def chunkApartSpec : ChangeSpec := { name := "chunkApart", fn := fun _ => fun
  | [d1, d2] => { results := [.lit (.bool true)], args := [d1, d2] }
  | _ => none }
def chunkApartRow : OpenClaim := { program := "yteobjankkcdaoaa", sum := "afcd2f218e7d7258133c6ab8214975a75479f6ce353bd7d6b549bff90a88e552", func := "steading/steadinglaw10.ChunkApart", spec := "chunkApart", unfollowed := true, recurses := true, plainKeys := false, apart := false }
def ChunkApartSaid : Prop := chunkApartRow.holds Try.pinned (OpenSpec.ofChange chunkApartSpec)

/-- ITS FALSE NEIGHBOUR: 'it returns false'. Refute it at one input. -/
def chunkApartWrong : ChangeSpec := { name := "chunkApart", fn := fun _ => fun
  | [d1, d2] => { results := [.lit (.bool false)], args := [d1, d2] }
  | _ => none }
def ChunkApartWrongFalsely : Prop := chunkApartRow.holds Try.pinned (OpenSpec.ofChange chunkApartWrong)

/-- 'steadinglaw10.ChunkAll': WHATEVER THE INPUT: true; the input reads as it did. -/
def chunkAllSpec : ChangeSpec := { name := "chunkAll", fn := fun _ => fun
  | [d1, d2] => { results := [.lit (.bool true)], args := [d1, d2] }
  | _ => none }
def chunkAllRow : OpenClaim := { program := "yteobjankkcdaoaa", sum := "afcd2f218e7d7258133c6ab8214975a75479f6ce353bd7d6b549bff90a88e552", func := "steading/steadinglaw10.ChunkAll", spec := "chunkAll", unfollowed := true, recurses := true, plainKeys := false, apart := false }
def ChunkAllSaid : Prop := chunkAllRow.holds Try.pinned (OpenSpec.ofChange chunkAllSpec)

/-- ITS FALSE NEIGHBOUR: 'it returns false'. Refute it at one input. -/
def chunkAllWrong : ChangeSpec := { name := "chunkAll", fn := fun _ => fun
  | [d1, d2] => { results := [.lit (.bool false)], args := [d1, d2] }
  | _ => none }
def ChunkAllWrongFalsely : Prop := chunkAllRow.holds Try.pinned (OpenSpec.ofChange chunkAllWrong)

/-- 'steadinglaw10.ChunkAgain': WHATEVER THE INPUT: true; the input reads as it did. -/
def chunkAgainSpec : ChangeSpec := { name := "chunkAgain", fn := fun _ => fun
  | [d1, d2, d3, d4] => { results := [.lit (.bool true)], args := [d1, d2, d3, d4] }
  | _ => none }
def chunkAgainRow : OpenClaim := { program := "yteobjankkcdaoaa", sum := "afcd2f218e7d7258133c6ab8214975a75479f6ce353bd7d6b549bff90a88e552", func := "steading/steadinglaw10.ChunkAgain", spec := "chunkAgain", unfollowed := true, recurses := true, plainKeys := false, apart := false }
def ChunkAgainSaid : Prop := chunkAgainRow.holds Try.pinned (OpenSpec.ofChange chunkAgainSpec)

/-- ITS FALSE NEIGHBOUR: 'it returns false'. Refute it at one input. -/
def chunkAgainWrong : ChangeSpec := { name := "chunkAgain", fn := fun _ => fun
  | [d1, d2, d3, d4] => { results := [.lit (.bool false)], args := [d1, d2, d3, d4] }
  | _ => none }
def ChunkAgainWrongFalsely : Prop := chunkAgainRow.holds Try.pinned (OpenSpec.ofChange chunkAgainWrong)

/-- 'steadinglaw10.ChunkLarge': WHATEVER THE INPUT: true; the input reads as it did. -/
def chunkLargeSpec : ChangeSpec := { name := "chunkLarge", fn := fun _ => fun
  | [d1, d2] => { results := [.lit (.bool true)], args := [d1, d2] }
  | _ => none }
def chunkLargeRow : OpenClaim := { program := "yteobjankkcdaoaa", sum := "afcd2f218e7d7258133c6ab8214975a75479f6ce353bd7d6b549bff90a88e552", func := "steading/steadinglaw10.ChunkLarge", spec := "chunkLarge", unfollowed := true, recurses := true, plainKeys := false, apart := false }
def ChunkLargeSaid : Prop := chunkLargeRow.holds Try.pinned (OpenSpec.ofChange chunkLargeSpec)

/-- ITS FALSE NEIGHBOUR: 'it returns false'. Refute it at one input. -/
def chunkLargeWrong : ChangeSpec := { name := "chunkLarge", fn := fun _ => fun
  | [d1, d2] => { results := [.lit (.bool false)], args := [d1, d2] }
  | _ => none }
def ChunkLargeWrongFalsely : Prop := chunkLargeRow.holds Try.pinned (OpenSpec.ofChange chunkLargeWrong)

/- THE SECOND FORM. 'bulk': how many values and letters a reading holds, each counted each time it is reached (what is shared counts as often as it is met; a slice's spare places count too). A statement '..UptoSaid' is the law's where the arguments, and the package variables that the reading takes, are together of bulk at most 1048576: NARROWER than '..Said'. Prove '..Said' where nothing that the law and all that it calls make is longer than what came in: it says more and counts as full. Else prove '..UptoSaid'. A law counts once. -/
mutual
def uptoBulk {H : Type} : DataW H → Nat
  | .lit (.string bytes) => bytes.length + 1
  | .lit _ => 1
  | .nil => 1
  | .ptr d => uptoBulk d + 1
  | .slice elems spare => uptoBulkAll elems + uptoBulkAll spare + 1
  | .agg parts => uptoBulkAll parts + 1
  | .iface _ d => uptoBulk d + 1
  | .map entries => uptoBulkEntries entries + 1
  | .held _ => 1
def uptoBulkAll {H : Type} : List (DataW H) → Nat
  | [] => 0
  | d :: r => uptoBulk d + uptoBulkAll r
def uptoBulkEntries {H : Type} : List (Lit × DataW H) → Nat
  | [] => 0
  | x :: r => uptoBulkEntry x + uptoBulkEntries r
def uptoBulkEntry {H : Type} : Lit × DataW H → Nat
  | (.string bytes, d) => bytes.length + uptoBulk d + 1
  | (_, d) => uptoBulk d + 1
 end
def uptoSmall : (H : Type) → List (DataW H) → Bool := fun _ ds => decide (uptoBulkAll ds ≤ 1048576)
def OpenSpec.upto (s : _root_.Go.ChangeSpec) : _root_.Go.OpenSpec := { _root_.Go.OpenSpec.ofChange s with cond := some uptoSmall }

/-- 'steadinglaw10.ChunkFull', WHERE WHAT IT READS IS OF BULK AT MOST 1048576: true; the input reads as it did. -/
def chunkFullUptoRow : OpenClaim := { program := "yteobjankkcdaoaa", sum := "afcd2f218e7d7258133c6ab8214975a75479f6ce353bd7d6b549bff90a88e552", func := "steading/steadinglaw10.ChunkFull", spec := "chunkFull", unfollowed := true, recurses := true, plainKeys := false, apart := false, narrowed := true }
def ChunkFullUptoSaid : Prop := chunkFullUptoRow.holds Try.pinned (OpenSpec.upto chunkFullSpec)

/-- 'steadinglaw10.ChunkKinds', WHERE WHAT IT READS IS OF BULK AT MOST 1048576: true; the input reads as it did. -/
def chunkKindsUptoRow : OpenClaim := { program := "yteobjankkcdaoaa", sum := "afcd2f218e7d7258133c6ab8214975a75479f6ce353bd7d6b549bff90a88e552", func := "steading/steadinglaw10.ChunkKinds", spec := "chunkKinds", unfollowed := true, recurses := true, plainKeys := false, apart := false, narrowed := true }
def ChunkKindsUptoSaid : Prop := chunkKindsUptoRow.holds Try.pinned (OpenSpec.upto chunkKindsSpec)

/-- 'steadinglaw10.ChunkApart', WHERE WHAT IT READS IS OF BULK AT MOST 1048576: true; the input reads as it did. -/
def chunkApartUptoRow : OpenClaim := { program := "yteobjankkcdaoaa", sum := "afcd2f218e7d7258133c6ab8214975a75479f6ce353bd7d6b549bff90a88e552", func := "steading/steadinglaw10.ChunkApart", spec := "chunkApart", unfollowed := true, recurses := true, plainKeys := false, apart := false, narrowed := true }
def ChunkApartUptoSaid : Prop := chunkApartUptoRow.holds Try.pinned (OpenSpec.upto chunkApartSpec)

/-- 'steadinglaw10.ChunkAll', WHERE WHAT IT READS IS OF BULK AT MOST 1048576: true; the input reads as it did. -/
def chunkAllUptoRow : OpenClaim := { program := "yteobjankkcdaoaa", sum := "afcd2f218e7d7258133c6ab8214975a75479f6ce353bd7d6b549bff90a88e552", func := "steading/steadinglaw10.ChunkAll", spec := "chunkAll", unfollowed := true, recurses := true, plainKeys := false, apart := false, narrowed := true }
def ChunkAllUptoSaid : Prop := chunkAllUptoRow.holds Try.pinned (OpenSpec.upto chunkAllSpec)

/-- 'steadinglaw10.ChunkAgain', WHERE WHAT IT READS IS OF BULK AT MOST 1048576: true; the input reads as it did. -/
def chunkAgainUptoRow : OpenClaim := { program := "yteobjankkcdaoaa", sum := "afcd2f218e7d7258133c6ab8214975a75479f6ce353bd7d6b549bff90a88e552", func := "steading/steadinglaw10.ChunkAgain", spec := "chunkAgain", unfollowed := true, recurses := true, plainKeys := false, apart := false, narrowed := true }
def ChunkAgainUptoSaid : Prop := chunkAgainUptoRow.holds Try.pinned (OpenSpec.upto chunkAgainSpec)

/-- 'steadinglaw10.ChunkLarge', WHERE WHAT IT READS IS OF BULK AT MOST 1048576: true; the input reads as it did. -/
def chunkLargeUptoRow : OpenClaim := { program := "yteobjankkcdaoaa", sum := "afcd2f218e7d7258133c6ab8214975a75479f6ce353bd7d6b549bff90a88e552", func := "steading/steadinglaw10.ChunkLarge", spec := "chunkLarge", unfollowed := true, recurses := true, plainKeys := false, apart := false, narrowed := true }
def ChunkLargeUptoSaid : Prop := chunkLargeUptoRow.holds Try.pinned (OpenSpec.upto chunkLargeSpec)

end Rows
end Go.Proofs.Yteobjankkcdaoaa
