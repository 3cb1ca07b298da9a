/-
  No cell of these rows narrows 'for every input' (looked for: loops, veiled, ifaces, maps, wideKeys, modest, calm, conditions, laid).
  DERIVED. THE GIVEN ROWS OF THIS SEAT. 10 by the template 'for every input the law returns true; each argument reads behind the call as it read before'; 0 by the template 'total and deterministic' (their statements: YtcofndegcleicaaTotals.lean).
  GIVEN WITH THE SEED: the statements are not yours to turn. If you find one false, say at which input.
  Laid BY PROGRAM, IN A SANDBOX (cutbox-rows.mjs): the forced cells as the released guide's own fill.sh prints them over the translation f5054e65f1bcd992… (all of the seat's roots in one cut). By AI agents, Wed Nov 11 2026. No macro, syntax, notation, axiom, sorry.
-/
import Derived.Test.YtcofndegcleicaaChecked
import GoSem.Claim
import GoSem.ClaimJoined
import GoSem.ClaimMapViews
import Derived.JoinedTies
import Derived.KernelRfl
namespace Go.Proofs.Ytcofndegcleicaa
/- THE CELL 'sum', in the pinned program and in every row, IS THE sha256 OF THE DUMP (.gsa) THAT YtcofndegcleicaaProg.lean LOADS. Nothing in Lean hashes anything: it is a label: what it is worth is what the hold of that sum in a sandbox is worth. -/
noncomputable def Try.pinned : Pinned := { name := "ytcofndegcleicaa", sum := "f5054e65f1bcd992d4b0223108a57f8dafb6dd7ea7ff353bfbaae010da513d66", checked := Try.checked }
namespace Rows
def none {H : Type} : Left H := { results := [], args := [] }

/-- 'reachlaw19.LedgerSums': WHATEVER THE INPUT: true; the input reads as it did. -/
def ledgerSumsSpec : ChangeSpec := { name := "ledgerSums", fn := fun _ => fun
  | [d] => { results := [.lit (.bool true)], args := [d] }
  | _ => none }
def ledgerSumsRow : OpenClaim := { program := "ytcofndegcleicaa", sum := "f5054e65f1bcd992d4b0223108a57f8dafb6dd7ea7ff353bfbaae010da513d66", func := "reach/reachlaw19.LedgerSums", spec := "ledgerSums", apart := false }
def LedgerSumsSaid : Prop := ledgerSumsRow.holds Try.pinned (OpenSpec.ofChange ledgerSumsSpec)

/-- ITS FALSE NEIGHBOUR: 'it returns false'. Refute it at one input. -/
def ledgerSumsWrong : ChangeSpec := { name := "ledgerSums", fn := fun _ => fun
  | [d] => { results := [.lit (.bool false)], args := [d] }
  | _ => none }
def LedgerSumsWrongFalsely : Prop := ledgerSumsRow.holds Try.pinned (OpenSpec.ofChange ledgerSumsWrong)

/-- 'reachlaw19.LedgerEncodes': WHATEVER THE INPUT: true; the input reads as it did. -/
def ledgerEncodesSpec : ChangeSpec := { name := "ledgerEncodes", fn := fun _ => fun
  | [d] => { results := [.lit (.bool true)], args := [d] }
  | _ => none }
def ledgerEncodesRow : OpenClaim := { program := "ytcofndegcleicaa", sum := "f5054e65f1bcd992d4b0223108a57f8dafb6dd7ea7ff353bfbaae010da513d66", func := "reach/reachlaw19.LedgerEncodes", spec := "ledgerEncodes", apart := false }
def LedgerEncodesSaid : Prop := ledgerEncodesRow.holds Try.pinned (OpenSpec.ofChange ledgerEncodesSpec)

/-- ITS FALSE NEIGHBOUR: 'it returns false'. Refute it at one input. -/
def ledgerEncodesWrong : ChangeSpec := { name := "ledgerEncodes", fn := fun _ => fun
  | [d] => { results := [.lit (.bool false)], args := [d] }
  | _ => none }
def LedgerEncodesWrongFalsely : Prop := ledgerEncodesRow.holds Try.pinned (OpenSpec.ofChange ledgerEncodesWrong)

/-- 'reachlaw19.LedgerReads': WHATEVER THE INPUT: true; the input reads as it did. -/
def ledgerReadsSpec : ChangeSpec := { name := "ledgerReads", fn := fun _ => fun
  | [d1, d2, d3] => { results := [.lit (.bool true)], args := [d1, d2, d3] }
  | _ => none }
def ledgerReadsRow : OpenClaim := { program := "ytcofndegcleicaa", sum := "f5054e65f1bcd992d4b0223108a57f8dafb6dd7ea7ff353bfbaae010da513d66", func := "reach/reachlaw19.LedgerReads", spec := "ledgerReads", apart := false }
def LedgerReadsSaid : Prop := ledgerReadsRow.holds Try.pinned (OpenSpec.ofChange ledgerReadsSpec)

/-- ITS FALSE NEIGHBOUR: 'it returns false'. Refute it at one input. -/
def ledgerReadsWrong : ChangeSpec := { name := "ledgerReads", fn := fun _ => fun
  | [d1, d2, d3] => { results := [.lit (.bool false)], args := [d1, d2, d3] }
  | _ => none }
def LedgerReadsWrongFalsely : Prop := ledgerReadsRow.holds Try.pinned (OpenSpec.ofChange ledgerReadsWrong)

/-- 'reachlaw19.LedgerBack': WHATEVER THE INPUT: true; the input reads as it did. -/
def ledgerBackSpec : ChangeSpec := { name := "ledgerBack", fn := fun _ => fun
  | [d1, d2] => { results := [.lit (.bool true)], args := [d1, d2] }
  | _ => none }
def ledgerBackRow : OpenClaim := { program := "ytcofndegcleicaa", sum := "f5054e65f1bcd992d4b0223108a57f8dafb6dd7ea7ff353bfbaae010da513d66", func := "reach/reachlaw19.LedgerBack", spec := "ledgerBack", apart := false }
def LedgerBackSaid : Prop := ledgerBackRow.holds Try.pinned (OpenSpec.ofChange ledgerBackSpec)

/-- ITS FALSE NEIGHBOUR: 'it returns false'. Refute it at one input. -/
def ledgerBackWrong : ChangeSpec := { name := "ledgerBack", fn := fun _ => fun
  | [d1, d2] => { results := [.lit (.bool false)], args := [d1, d2] }
  | _ => none }
def LedgerBackWrongFalsely : Prop := ledgerBackRow.holds Try.pinned (OpenSpec.ofChange ledgerBackWrong)

/-- 'reachlaw19.LedgerOwn': WHATEVER THE INPUT: true; the input reads as it did. -/
def ledgerOwnSpec : ChangeSpec := { name := "ledgerOwn", fn := fun _ => fun
  | [d] => { results := [.lit (.bool true)], args := [d] }
  | _ => none }
def ledgerOwnRow : OpenClaim := { program := "ytcofndegcleicaa", sum := "f5054e65f1bcd992d4b0223108a57f8dafb6dd7ea7ff353bfbaae010da513d66", func := "reach/reachlaw19.LedgerOwn", spec := "ledgerOwn", apart := false }
def LedgerOwnSaid : Prop := ledgerOwnRow.holds Try.pinned (OpenSpec.ofChange ledgerOwnSpec)

/-- ITS FALSE NEIGHBOUR: 'it returns false'. Refute it at one input. -/
def ledgerOwnWrong : ChangeSpec := { name := "ledgerOwn", fn := fun _ => fun
  | [d] => { results := [.lit (.bool false)], args := [d] }
  | _ => none }
def LedgerOwnWrongFalsely : Prop := ledgerOwnRow.holds Try.pinned (OpenSpec.ofChange ledgerOwnWrong)

/-- 'reachlaw19.LedgerWalks': WHATEVER THE INPUT: true; the input reads as it did. -/
def ledgerWalksSpec : ChangeSpec := { name := "ledgerWalks", fn := fun _ => fun
  | [d1, d2] => { results := [.lit (.bool true)], args := [d1, d2] }
  | _ => none }
def ledgerWalksRow : OpenClaim := { program := "ytcofndegcleicaa", sum := "f5054e65f1bcd992d4b0223108a57f8dafb6dd7ea7ff353bfbaae010da513d66", func := "reach/reachlaw19.LedgerWalks", spec := "ledgerWalks", unfollowed := true, recurses := true, apart := false }
def LedgerWalksSaid : Prop := ledgerWalksRow.holds Try.pinned (OpenSpec.ofChange ledgerWalksSpec)

/-- ITS FALSE NEIGHBOUR: 'it returns false'. Refute it at one input. -/
def ledgerWalksWrong : ChangeSpec := { name := "ledgerWalks", fn := fun _ => fun
  | [d1, d2] => { results := [.lit (.bool false)], args := [d1, d2] }
  | _ => none }
def LedgerWalksWrongFalsely : Prop := ledgerWalksRow.holds Try.pinned (OpenSpec.ofChange ledgerWalksWrong)

/-- 'reachlaw19.LedgerInside': WHATEVER THE INPUT: true; the input reads as it did. -/
def ledgerInsideSpec : ChangeSpec := { name := "ledgerInside", fn := fun _ => fun
  | [d1, d2, d3] => { results := [.lit (.bool true)], args := [d1, d2, d3] }
  | _ => none }
def ledgerInsideRow : OpenClaim := { program := "ytcofndegcleicaa", sum := "f5054e65f1bcd992d4b0223108a57f8dafb6dd7ea7ff353bfbaae010da513d66", func := "reach/reachlaw19.LedgerInside", spec := "ledgerInside", unfollowed := true, recurses := true, apart := false }
def LedgerInsideSaid : Prop := ledgerInsideRow.holds Try.pinned (OpenSpec.ofChange ledgerInsideSpec)

/-- ITS FALSE NEIGHBOUR: 'it returns false'. Refute it at one input. -/
def ledgerInsideWrong : ChangeSpec := { name := "ledgerInside", fn := fun _ => fun
  | [d1, d2, d3] => { results := [.lit (.bool false)], args := [d1, d2, d3] }
  | _ => none }
def LedgerInsideWrongFalsely : Prop := ledgerInsideRow.holds Try.pinned (OpenSpec.ofChange ledgerInsideWrong)

/-- 'reachlaw19.LedgerWholes': WHATEVER THE INPUT: true; the input reads as it did. -/
def ledgerWholesSpec : ChangeSpec := { name := "ledgerWholes", fn := fun _ => fun
  | [d1, d2] => { results := [.lit (.bool true)], args := [d1, d2] }
  | _ => none }
def ledgerWholesRow : OpenClaim := { program := "ytcofndegcleicaa", sum := "f5054e65f1bcd992d4b0223108a57f8dafb6dd7ea7ff353bfbaae010da513d66", func := "reach/reachlaw19.LedgerWholes", spec := "ledgerWholes", unfollowed := true, recurses := true, apart := false }
def LedgerWholesSaid : Prop := ledgerWholesRow.holds Try.pinned (OpenSpec.ofChange ledgerWholesSpec)

/-- ITS FALSE NEIGHBOUR: 'it returns false'. Refute it at one input. -/
def ledgerWholesWrong : ChangeSpec := { name := "ledgerWholes", fn := fun _ => fun
  | [d1, d2] => { results := [.lit (.bool false)], args := [d1, d2] }
  | _ => none }
def LedgerWholesWrongFalsely : Prop := ledgerWholesRow.holds Try.pinned (OpenSpec.ofChange ledgerWholesWrong)

/-- 'reachlaw19.LedgerCuts': WHATEVER THE INPUT: true; the input reads as it did. -/
def ledgerCutsSpec : ChangeSpec := { name := "ledgerCuts", fn := fun _ => fun
  | [d1, d2] => { results := [.lit (.bool true)], args := [d1, d2] }
  | _ => none }
def ledgerCutsRow : OpenClaim := { program := "ytcofndegcleicaa", sum := "f5054e65f1bcd992d4b0223108a57f8dafb6dd7ea7ff353bfbaae010da513d66", func := "reach/reachlaw19.LedgerCuts", spec := "ledgerCuts", unfollowed := true, recurses := true, apart := false }
def LedgerCutsSaid : Prop := ledgerCutsRow.holds Try.pinned (OpenSpec.ofChange ledgerCutsSpec)

/-- ITS FALSE NEIGHBOUR: 'it returns false'. Refute it at one input. -/
def ledgerCutsWrong : ChangeSpec := { name := "ledgerCuts", fn := fun _ => fun
  | [d1, d2] => { results := [.lit (.bool false)], args := [d1, d2] }
  | _ => none }
def LedgerCutsWrongFalsely : Prop := ledgerCutsRow.holds Try.pinned (OpenSpec.ofChange ledgerCutsWrong)

/-- 'reachlaw19.LedgerSpoils': WHATEVER THE INPUT: true; the input reads as it did. -/
def ledgerSpoilsSpec : ChangeSpec := { name := "ledgerSpoils", fn := fun _ => fun
  | [d1, d2, d3] => { results := [.lit (.bool true)], args := [d1, d2, d3] }
  | _ => none }
def ledgerSpoilsRow : OpenClaim := { program := "ytcofndegcleicaa", sum := "f5054e65f1bcd992d4b0223108a57f8dafb6dd7ea7ff353bfbaae010da513d66", func := "reach/reachlaw19.LedgerSpoils", spec := "ledgerSpoils", unfollowed := true, recurses := true, apart := false }
def LedgerSpoilsSaid : Prop := ledgerSpoilsRow.holds Try.pinned (OpenSpec.ofChange ledgerSpoilsSpec)

/-- ITS FALSE NEIGHBOUR: 'it returns false'. Refute it at one input. -/
def ledgerSpoilsWrong : ChangeSpec := { name := "ledgerSpoils", fn := fun _ => fun
  | [d1, d2, d3] => { results := [.lit (.bool false)], args := [d1, d2, d3] }
  | _ => none }
def LedgerSpoilsWrongFalsely : Prop := ledgerSpoilsRow.holds Try.pinned (OpenSpec.ofChange ledgerSpoilsWrong)

/- THE SECOND FORM. 'bulk': how many values and letters a reading holds, each counted each time it is reached (what is shared counts as often as it is met; a slice's spare places count too). A statement '..UptoSaid' is the law's where the arguments, and the package variables that the reading takes, are together of bulk at most 1048576: NARROWER than '..Said'. Prove '..Said' where nothing that the law and all that it calls make is longer than what came in: it says more and counts as full. Else prove '..UptoSaid'. A law counts once. -/
mutual
def uptoBulk {H : Type} : DataW H → Nat
  | .lit (.string bytes) => bytes.length + 1
  | .lit _ => 1
  | .nil => 1
  | .ptr d => uptoBulk d + 1
  | .slice elems spare => uptoBulkAll elems + uptoBulkAll spare + 1
  | .agg parts => uptoBulkAll parts + 1
  | .iface _ d => uptoBulk d + 1
  | .map entries => uptoBulkEntries entries + 1
  | .held _ => 1
def uptoBulkAll {H : Type} : List (DataW H) → Nat
  | [] => 0
  | d :: r => uptoBulk d + uptoBulkAll r
def uptoBulkEntries {H : Type} : List (Lit × DataW H) → Nat
  | [] => 0
  | x :: r => uptoBulkEntry x + uptoBulkEntries r
def uptoBulkEntry {H : Type} : Lit × DataW H → Nat
  | (.string bytes, d) => bytes.length + uptoBulk d + 1
  | (_, d) => uptoBulk d + 1
 end
def uptoSmall : (H : Type) → List (DataW H) → Bool := fun _ ds => decide (uptoBulkAll ds ≤ 1048576)
def OpenSpec.upto (s : _root_.Go.ChangeSpec) : _root_.Go.OpenSpec := { _root_.Go.OpenSpec.ofChange s with cond := some uptoSmall }

/-- 'reachlaw19.LedgerSums', WHERE WHAT IT READS IS OF BULK AT MOST 1048576: true; the input reads as it did. -/
def ledgerSumsUptoRow : OpenClaim := { program := "ytcofndegcleicaa", sum := "f5054e65f1bcd992d4b0223108a57f8dafb6dd7ea7ff353bfbaae010da513d66", func := "reach/reachlaw19.LedgerSums", spec := "ledgerSums", apart := false, narrowed := true }
def LedgerSumsUptoSaid : Prop := ledgerSumsUptoRow.holds Try.pinned (OpenSpec.upto ledgerSumsSpec)

/-- 'reachlaw19.LedgerEncodes', WHERE WHAT IT READS IS OF BULK AT MOST 1048576: true; the input reads as it did. -/
def ledgerEncodesUptoRow : OpenClaim := { program := "ytcofndegcleicaa", sum := "f5054e65f1bcd992d4b0223108a57f8dafb6dd7ea7ff353bfbaae010da513d66", func := "reach/reachlaw19.LedgerEncodes", spec := "ledgerEncodes", apart := false, narrowed := true }
def LedgerEncodesUptoSaid : Prop := ledgerEncodesUptoRow.holds Try.pinned (OpenSpec.upto ledgerEncodesSpec)

/-- 'reachlaw19.LedgerReads', WHERE WHAT IT READS IS OF BULK AT MOST 1048576: true; the input reads as it did. -/
def ledgerReadsUptoRow : OpenClaim := { program := "ytcofndegcleicaa", sum := "f5054e65f1bcd992d4b0223108a57f8dafb6dd7ea7ff353bfbaae010da513d66", func := "reach/reachlaw19.LedgerReads", spec := "ledgerReads", apart := false, narrowed := true }
def LedgerReadsUptoSaid : Prop := ledgerReadsUptoRow.holds Try.pinned (OpenSpec.upto ledgerReadsSpec)

/-- 'reachlaw19.LedgerBack', WHERE WHAT IT READS IS OF BULK AT MOST 1048576: true; the input reads as it did. -/
def ledgerBackUptoRow : OpenClaim := { program := "ytcofndegcleicaa", sum := "f5054e65f1bcd992d4b0223108a57f8dafb6dd7ea7ff353bfbaae010da513d66", func := "reach/reachlaw19.LedgerBack", spec := "ledgerBack", apart := false, narrowed := true }
def LedgerBackUptoSaid : Prop := ledgerBackUptoRow.holds Try.pinned (OpenSpec.upto ledgerBackSpec)

/-- 'reachlaw19.LedgerOwn', WHERE WHAT IT READS IS OF BULK AT MOST 1048576: true; the input reads as it did. -/
def ledgerOwnUptoRow : OpenClaim := { program := "ytcofndegcleicaa", sum := "f5054e65f1bcd992d4b0223108a57f8dafb6dd7ea7ff353bfbaae010da513d66", func := "reach/reachlaw19.LedgerOwn", spec := "ledgerOwn", apart := false, narrowed := true }
def LedgerOwnUptoSaid : Prop := ledgerOwnUptoRow.holds Try.pinned (OpenSpec.upto ledgerOwnSpec)

/-- 'reachlaw19.LedgerWalks', WHERE WHAT IT READS IS OF BULK AT MOST 1048576: true; the input reads as it did. -/
def ledgerWalksUptoRow : OpenClaim := { program := "ytcofndegcleicaa", sum := "f5054e65f1bcd992d4b0223108a57f8dafb6dd7ea7ff353bfbaae010da513d66", func := "reach/reachlaw19.LedgerWalks", spec := "ledgerWalks", unfollowed := true, recurses := true, apart := false, narrowed := true }
def LedgerWalksUptoSaid : Prop := ledgerWalksUptoRow.holds Try.pinned (OpenSpec.upto ledgerWalksSpec)

/-- 'reachlaw19.LedgerInside', WHERE WHAT IT READS IS OF BULK AT MOST 1048576: true; the input reads as it did. -/
def ledgerInsideUptoRow : OpenClaim := { program := "ytcofndegcleicaa", sum := "f5054e65f1bcd992d4b0223108a57f8dafb6dd7ea7ff353bfbaae010da513d66", func := "reach/reachlaw19.LedgerInside", spec := "ledgerInside", unfollowed := true, recurses := true, apart := false, narrowed := true }
def LedgerInsideUptoSaid : Prop := ledgerInsideUptoRow.holds Try.pinned (OpenSpec.upto ledgerInsideSpec)

/-- 'reachlaw19.LedgerWholes', WHERE WHAT IT READS IS OF BULK AT MOST 1048576: true; the input reads as it did. -/
def ledgerWholesUptoRow : OpenClaim := { program := "ytcofndegcleicaa", sum := "f5054e65f1bcd992d4b0223108a57f8dafb6dd7ea7ff353bfbaae010da513d66", func := "reach/reachlaw19.LedgerWholes", spec := "ledgerWholes", unfollowed := true, recurses := true, apart := false, narrowed := true }
def LedgerWholesUptoSaid : Prop := ledgerWholesUptoRow.holds Try.pinned (OpenSpec.upto ledgerWholesSpec)

/-- 'reachlaw19.LedgerCuts', WHERE WHAT IT READS IS OF BULK AT MOST 1048576: true; the input reads as it did. -/
def ledgerCutsUptoRow : OpenClaim := { program := "ytcofndegcleicaa", sum := "f5054e65f1bcd992d4b0223108a57f8dafb6dd7ea7ff353bfbaae010da513d66", func := "reach/reachlaw19.LedgerCuts", spec := "ledgerCuts", unfollowed := true, recurses := true, apart := false, narrowed := true }
def LedgerCutsUptoSaid : Prop := ledgerCutsUptoRow.holds Try.pinned (OpenSpec.upto ledgerCutsSpec)

/-- 'reachlaw19.LedgerSpoils', WHERE WHAT IT READS IS OF BULK AT MOST 1048576: true; the input reads as it did. -/
def ledgerSpoilsUptoRow : OpenClaim := { program := "ytcofndegcleicaa", sum := "f5054e65f1bcd992d4b0223108a57f8dafb6dd7ea7ff353bfbaae010da513d66", func := "reach/reachlaw19.LedgerSpoils", spec := "ledgerSpoils", unfollowed := true, recurses := true, apart := false, narrowed := true }
def LedgerSpoilsUptoSaid : Prop := ledgerSpoilsUptoRow.holds Try.pinned (OpenSpec.upto ledgerSpoilsSpec)

end Rows
end Go.Proofs.Ytcofndegcleicaa
