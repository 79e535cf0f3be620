/-
  No cell of these rows narrows 'for every input' (looked for: loops, veiled, ifaces, maps, wideKeys, modest, calm, conditions, laid).
  DERIVED. THE GIVEN ROWS OF THIS SEAT. 3 by the template 'for every input the law returns true; each argument reads behind the call as it read before'; 0 by the template 'total and deterministic' (their statements: YtlhjiciimeefeaaTotals.lean).
  GIVEN WITH THE SEED: the statements are not yours to turn. If you find one false, say at which input.
  Laid BY PROGRAM, IN A SANDBOX (cutbox-rows.mjs): the forced cells as the released guide's own fill.sh prints them over the translation 6fdc5f1b1f641105… (all of the seat's roots in one cut). By AI agents, Wed Nov 11 2026. No macro, syntax, notation, axiom, sorry.
-/
import Derived.Test.YtlhjiciimeefeaaChecked
import GoSem.Claim
import GoSem.ClaimJoined
import GoSem.ClaimMapViews
import Derived.JoinedTies
import Derived.KernelRfl
namespace Go.Proofs.Ytlhjiciimeefeaa
/- THE CELL 'sum', in the pinned program and in every row, IS THE sha256 OF THE DUMP (.gsa) THAT YtlhjiciimeefeaaProg.lean LOADS. Nothing in Lean hashes anything: it is a label: what it is worth is what the hold of that sum in a sandbox is worth. -/
noncomputable def Try.pinned : Pinned := { name := "ytlhjiciimeefeaa", sum := "6fdc5f1b1f641105bdbfb8926f335d98e71f4f0cb76f7cc1869ca43bc4ea1b5c", checked := Try.checked }
namespace Rows
def none {H : Type} : Left H := { results := [], args := [] }

/-- 'steadinglaw19.LedgerEnds': WHATEVER THE INPUT: true; the input reads as it did. -/
def ledgerEndsSpec : ChangeSpec := { name := "ledgerEnds", fn := fun _ => fun
  | [d1, d2] => { results := [.lit (.bool true)], args := [d1, d2] }
  | _ => none }
def ledgerEndsRow : OpenClaim := { program := "ytlhjiciimeefeaa", sum := "6fdc5f1b1f641105bdbfb8926f335d98e71f4f0cb76f7cc1869ca43bc4ea1b5c", func := "steading/steadinglaw19.LedgerEnds", spec := "ledgerEnds", unfollowed := true, recurses := true, apart := false }
def LedgerEndsSaid : Prop := ledgerEndsRow.holds Try.pinned (OpenSpec.ofChange ledgerEndsSpec)

/-- ITS FALSE NEIGHBOUR: 'it returns false'. Refute it at one input. -/
def ledgerEndsWrong : ChangeSpec := { name := "ledgerEnds", fn := fun _ => fun
  | [d1, d2] => { results := [.lit (.bool false)], args := [d1, d2] }
  | _ => none }
def LedgerEndsWrongFalsely : Prop := ledgerEndsRow.holds Try.pinned (OpenSpec.ofChange ledgerEndsWrong)

/-- 'steadinglaw19.LedgerSame': WHATEVER THE INPUT: true; the input reads as it did. -/
def ledgerSameSpec : ChangeSpec := { name := "ledgerSame", fn := fun _ => fun
  | [d1, d2, d3] => { results := [.lit (.bool true)], args := [d1, d2, d3] }
  | _ => none }
def ledgerSameRow : OpenClaim := { program := "ytlhjiciimeefeaa", sum := "6fdc5f1b1f641105bdbfb8926f335d98e71f4f0cb76f7cc1869ca43bc4ea1b5c", func := "steading/steadinglaw19.LedgerSame", spec := "ledgerSame", unfollowed := true, recurses := true, apart := false }
def LedgerSameSaid : Prop := ledgerSameRow.holds Try.pinned (OpenSpec.ofChange ledgerSameSpec)

/-- ITS FALSE NEIGHBOUR: 'it returns false'. Refute it at one input. -/
def ledgerSameWrong : ChangeSpec := { name := "ledgerSame", fn := fun _ => fun
  | [d1, d2, d3] => { results := [.lit (.bool false)], args := [d1, d2, d3] }
  | _ => none }
def LedgerSameWrongFalsely : Prop := ledgerSameRow.holds Try.pinned (OpenSpec.ofChange ledgerSameWrong)

/-- 'steadinglaw19.LedgerBack': WHATEVER THE INPUT: true; the input reads as it did. -/
def ledgerBackSpec : ChangeSpec := { name := "ledgerBack", fn := fun _ => fun
  | [d1, d2, d3] => { results := [.lit (.bool true)], args := [d1, d2, d3] }
  | _ => none }
def ledgerBackRow : OpenClaim := { program := "ytlhjiciimeefeaa", sum := "6fdc5f1b1f641105bdbfb8926f335d98e71f4f0cb76f7cc1869ca43bc4ea1b5c", func := "steading/steadinglaw19.LedgerBack", spec := "ledgerBack", unfollowed := true, recurses := true, apart := false }
def LedgerBackSaid : Prop := ledgerBackRow.holds Try.pinned (OpenSpec.ofChange ledgerBackSpec)

/-- ITS FALSE NEIGHBOUR: 'it returns false'. Refute it at one input. -/
def ledgerBackWrong : ChangeSpec := { name := "ledgerBack", fn := fun _ => fun
  | [d1, d2, d3] => { results := [.lit (.bool false)], args := [d1, d2, d3] }
  | _ => none }
def LedgerBackWrongFalsely : Prop := ledgerBackRow.holds Try.pinned (OpenSpec.ofChange ledgerBackWrong)

/- THE SECOND FORM. 'bulk': how many values and letters a reading holds, each counted each time it is reached (what is shared counts as often as it is met; a slice's spare places count too). A statement '..UptoSaid' is the law's where the arguments, and the package variables that the reading takes, are together of bulk at most 1048576: NARROWER than '..Said'. Prove '..Said' where nothing that the law and all that it calls make is longer than what came in: it says more and counts as full. Else prove '..UptoSaid'. A law counts once. -/
mutual
def uptoBulk {H : Type} : DataW H → Nat
  | .lit (.string bytes) => bytes.length + 1
  | .lit _ => 1
  | .nil => 1
  | .ptr d => uptoBulk d + 1
  | .slice elems spare => uptoBulkAll elems + uptoBulkAll spare + 1
  | .agg parts => uptoBulkAll parts + 1
  | .iface _ d => uptoBulk d + 1
  | .map entries => uptoBulkEntries entries + 1
  | .held _ => 1
def uptoBulkAll {H : Type} : List (DataW H) → Nat
  | [] => 0
  | d :: r => uptoBulk d + uptoBulkAll r
def uptoBulkEntries {H : Type} : List (Lit × DataW H) → Nat
  | [] => 0
  | x :: r => uptoBulkEntry x + uptoBulkEntries r
def uptoBulkEntry {H : Type} : Lit × DataW H → Nat
  | (.string bytes, d) => bytes.length + uptoBulk d + 1
  | (_, d) => uptoBulk d + 1
 end
def uptoSmall : (H : Type) → List (DataW H) → Bool := fun _ ds => decide (uptoBulkAll ds ≤ 1048576)
def OpenSpec.upto (s : _root_.Go.ChangeSpec) : _root_.Go.OpenSpec := { _root_.Go.OpenSpec.ofChange s with cond := some uptoSmall }

/-- 'steadinglaw19.LedgerEnds', WHERE WHAT IT READS IS OF BULK AT MOST 1048576: true; the input reads as it did. -/
def ledgerEndsUptoRow : OpenClaim := { program := "ytlhjiciimeefeaa", sum := "6fdc5f1b1f641105bdbfb8926f335d98e71f4f0cb76f7cc1869ca43bc4ea1b5c", func := "steading/steadinglaw19.LedgerEnds", spec := "ledgerEnds", unfollowed := true, recurses := true, apart := false, narrowed := true }
def LedgerEndsUptoSaid : Prop := ledgerEndsUptoRow.holds Try.pinned (OpenSpec.upto ledgerEndsSpec)

/-- 'steadinglaw19.LedgerSame', WHERE WHAT IT READS IS OF BULK AT MOST 1048576: true; the input reads as it did. -/
def ledgerSameUptoRow : OpenClaim := { program := "ytlhjiciimeefeaa", sum := "6fdc5f1b1f641105bdbfb8926f335d98e71f4f0cb76f7cc1869ca43bc4ea1b5c", func := "steading/steadinglaw19.LedgerSame", spec := "ledgerSame", unfollowed := true, recurses := true, apart := false, narrowed := true }
def LedgerSameUptoSaid : Prop := ledgerSameUptoRow.holds Try.pinned (OpenSpec.upto ledgerSameSpec)

/-- 'steadinglaw19.LedgerBack', WHERE WHAT IT READS IS OF BULK AT MOST 1048576: true; the input reads as it did. -/
def ledgerBackUptoRow : OpenClaim := { program := "ytlhjiciimeefeaa", sum := "6fdc5f1b1f641105bdbfb8926f335d98e71f4f0cb76f7cc1869ca43bc4ea1b5c", func := "steading/steadinglaw19.LedgerBack", spec := "ledgerBack", unfollowed := true, recurses := true, apart := false, narrowed := true }
def LedgerBackUptoSaid : Prop := ledgerBackUptoRow.holds Try.pinned (OpenSpec.upto ledgerBackSpec)

end Rows
end Go.Proofs.Ytlhjiciimeefeaa
