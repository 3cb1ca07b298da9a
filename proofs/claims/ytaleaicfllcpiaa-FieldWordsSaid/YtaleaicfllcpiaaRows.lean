/-
  No cell of these rows narrows 'for every input' (looked for: loops, veiled, ifaces, maps, wideKeys, modest, calm, conditions, laid).
  DERIVED. THE GIVEN ROWS OF THIS SEAT. 5 by the template 'for every input the law returns true; each argument reads behind the call as it read before'; 0 by the template 'total and deterministic' (their statements: YtaleaicfllcpiaaTotals.lean).
  GIVEN WITH THE SEED: the statements are not yours to turn. If you find one false, say at which input.
  Laid BY PROGRAM, IN A SANDBOX (cutbox-rows.mjs): the forced cells as the released guide's own fill.sh prints them over the translation 6684c52188be3fbf… (all of the seat's roots in one cut). By AI agents, Wed Nov 11 2026. No macro, syntax, notation, axiom, sorry.
-/
import Derived.Test.YtaleaicfllcpiaaChecked
import GoSem.Claim
import GoSem.ClaimJoined
import GoSem.ClaimMapViews
import Derived.JoinedTies
import Derived.KernelRfl
namespace Go.Proofs.Ytaleaicfllcpiaa
/- THE CELL 'sum', in the pinned program and in every row, IS THE sha256 OF THE DUMP (.gsa) THAT YtaleaicfllcpiaaProg.lean LOADS. Nothing in Lean hashes anything: it is a label: what it is worth is what the hold of that sum in a sandbox is worth. -/
noncomputable def Try.pinned : Pinned := { name := "ytaleaicfllcpiaa", sum := "6684c52188be3fbf9005ccc42607c90001d7499d34f44fc15ef20bc82f2da79a", checked := Try.checked }
namespace Rows
def none {H : Type} : Left H := { results := [], args := [] }

/-- 'reachlaw4.FieldChecks': WHATEVER THE INPUT: true; the input reads as it did. -/
def fieldChecksSpec : ChangeSpec := { name := "fieldChecks", fn := fun _ => fun
  | [d] => { results := [.lit (.bool true)], args := [d] }
  | _ => none }
def fieldChecksRow : OpenClaim := { program := "ytaleaicfllcpiaa", sum := "6684c52188be3fbf9005ccc42607c90001d7499d34f44fc15ef20bc82f2da79a", func := "reach/reachlaw4.FieldChecks", spec := "fieldChecks", apart := false }
def FieldChecksSaid : Prop := fieldChecksRow.holds Try.pinned (OpenSpec.ofChange fieldChecksSpec)

/-- ITS FALSE NEIGHBOUR: 'it returns false'. Refute it at one input. -/
def fieldChecksWrong : ChangeSpec := { name := "fieldChecks", fn := fun _ => fun
  | [d] => { results := [.lit (.bool false)], args := [d] }
  | _ => none }
def FieldChecksWrongFalsely : Prop := fieldChecksRow.holds Try.pinned (OpenSpec.ofChange fieldChecksWrong)

/-- 'reachlaw4.FieldCovers': WHATEVER THE INPUT: true; the input reads as it did. -/
def fieldCoversSpec : ChangeSpec := { name := "fieldCovers", fn := fun _ => fun
  | [d1, d2, d3] => { results := [.lit (.bool true)], args := [d1, d2, d3] }
  | _ => none }
def fieldCoversRow : OpenClaim := { program := "ytaleaicfllcpiaa", sum := "6684c52188be3fbf9005ccc42607c90001d7499d34f44fc15ef20bc82f2da79a", func := "reach/reachlaw4.FieldCovers", spec := "fieldCovers", inPlace := ["internal/abi.NoEscape", "internal/bytealg.MakeNoZero"], recurses := true, apart := false }
def FieldCoversSaid : Prop := fieldCoversRow.holds Try.pinned (OpenSpec.ofChange fieldCoversSpec)

/-- ITS FALSE NEIGHBOUR: 'it returns false'. Refute it at one input. -/
def fieldCoversWrong : ChangeSpec := { name := "fieldCovers", fn := fun _ => fun
  | [d1, d2, d3] => { results := [.lit (.bool false)], args := [d1, d2, d3] }
  | _ => none }
def FieldCoversWrongFalsely : Prop := fieldCoversRow.holds Try.pinned (OpenSpec.ofChange fieldCoversWrong)

/-- 'reachlaw4.FieldFewest': WHATEVER THE INPUT: true; the input reads as it did. -/
def fieldFewestSpec : ChangeSpec := { name := "fieldFewest", fn := fun _ => fun
  | [d1, d2, d3, d4] => { results := [.lit (.bool true)], args := [d1, d2, d3, d4] }
  | _ => none }
def fieldFewestRow : OpenClaim := { program := "ytaleaicfllcpiaa", sum := "6684c52188be3fbf9005ccc42607c90001d7499d34f44fc15ef20bc82f2da79a", func := "reach/reachlaw4.FieldFewest", spec := "fieldFewest", inPlace := ["internal/abi.NoEscape", "internal/bytealg.MakeNoZero"], apart := false }
def FieldFewestSaid : Prop := fieldFewestRow.holds Try.pinned (OpenSpec.ofChange fieldFewestSpec)

/-- ITS FALSE NEIGHBOUR: 'it returns false'. Refute it at one input. -/
def fieldFewestWrong : ChangeSpec := { name := "fieldFewest", fn := fun _ => fun
  | [d1, d2, d3, d4] => { results := [.lit (.bool false)], args := [d1, d2, d3, d4] }
  | _ => none }
def FieldFewestWrongFalsely : Prop := fieldFewestRow.holds Try.pinned (OpenSpec.ofChange fieldFewestWrong)

/-- 'reachlaw4.FieldPacks': WHATEVER THE INPUT: true; the input reads as it did. -/
def fieldPacksSpec : ChangeSpec := { name := "fieldPacks", fn := fun _ => fun
  | [d1, d2] => { results := [.lit (.bool true)], args := [d1, d2] }
  | _ => none }
def fieldPacksRow : OpenClaim := { program := "ytaleaicfllcpiaa", sum := "6684c52188be3fbf9005ccc42607c90001d7499d34f44fc15ef20bc82f2da79a", func := "reach/reachlaw4.FieldPacks", spec := "fieldPacks", inPlace := ["internal/abi.NoEscape", "internal/bytealg.MakeNoZero"], apart := false }
def FieldPacksSaid : Prop := fieldPacksRow.holds Try.pinned (OpenSpec.ofChange fieldPacksSpec)

/-- ITS FALSE NEIGHBOUR: 'it returns false'. Refute it at one input. -/
def fieldPacksWrong : ChangeSpec := { name := "fieldPacks", fn := fun _ => fun
  | [d1, d2] => { results := [.lit (.bool false)], args := [d1, d2] }
  | _ => none }
def FieldPacksWrongFalsely : Prop := fieldPacksRow.holds Try.pinned (OpenSpec.ofChange fieldPacksWrong)

/-- 'reachlaw4.FieldWords': WHATEVER THE INPUT: true; the input reads as it did. -/
def fieldWordsSpec : ChangeSpec := { name := "fieldWords", fn := fun _ => fun
  | [d1, d2] => { results := [.lit (.bool true)], args := [d1, d2] }
  | _ => none }
def fieldWordsRow : OpenClaim := { program := "ytaleaicfllcpiaa", sum := "6684c52188be3fbf9005ccc42607c90001d7499d34f44fc15ef20bc82f2da79a", func := "reach/reachlaw4.FieldWords", spec := "fieldWords", inPlace := ["internal/abi.NoEscape", "internal/bytealg.MakeNoZero"], apart := false }
def FieldWordsSaid : Prop := fieldWordsRow.holds Try.pinned (OpenSpec.ofChange fieldWordsSpec)

/-- ITS FALSE NEIGHBOUR: 'it returns false'. Refute it at one input. -/
def fieldWordsWrong : ChangeSpec := { name := "fieldWords", fn := fun _ => fun
  | [d1, d2] => { results := [.lit (.bool false)], args := [d1, d2] }
  | _ => none }
def FieldWordsWrongFalsely : Prop := fieldWordsRow.holds Try.pinned (OpenSpec.ofChange fieldWordsWrong)

/- THE SECOND FORM. 'bulk': how many values and letters a reading holds, each counted each time it is reached (what is shared counts as often as it is met; a slice's spare places count too). A statement '..UptoSaid' is the law's where the arguments, and the package variables that the reading takes, are together of bulk at most 1048576: NARROWER than '..Said'. Prove '..Said' where nothing that the law and all that it calls make is longer than what came in: it says more and counts as full. Else prove '..UptoSaid'. A law counts once. -/
mutual
def uptoBulk {H : Type} : DataW H → Nat
  | .lit (.string bytes) => bytes.length + 1
  | .lit _ => 1
  | .nil => 1
  | .ptr d => uptoBulk d + 1
  | .slice elems spare => uptoBulkAll elems + uptoBulkAll spare + 1
  | .agg parts => uptoBulkAll parts + 1
  | .iface _ d => uptoBulk d + 1
  | .map entries => uptoBulkEntries entries + 1
  | .held _ => 1
def uptoBulkAll {H : Type} : List (DataW H) → Nat
  | [] => 0
  | d :: r => uptoBulk d + uptoBulkAll r
def uptoBulkEntries {H : Type} : List (Lit × DataW H) → Nat
  | [] => 0
  | x :: r => uptoBulkEntry x + uptoBulkEntries r
def uptoBulkEntry {H : Type} : Lit × DataW H → Nat
  | (.string bytes, d) => bytes.length + uptoBulk d + 1
  | (_, d) => uptoBulk d + 1
 end
def uptoSmall : (H : Type) → List (DataW H) → Bool := fun _ ds => decide (uptoBulkAll ds ≤ 1048576)
def OpenSpec.upto (s : _root_.Go.ChangeSpec) : _root_.Go.OpenSpec := { _root_.Go.OpenSpec.ofChange s with cond := some uptoSmall }

/-- 'reachlaw4.FieldChecks', WHERE WHAT IT READS IS OF BULK AT MOST 1048576: true; the input reads as it did. -/
def fieldChecksUptoRow : OpenClaim := { program := "ytaleaicfllcpiaa", sum := "6684c52188be3fbf9005ccc42607c90001d7499d34f44fc15ef20bc82f2da79a", func := "reach/reachlaw4.FieldChecks", spec := "fieldChecks", apart := false, narrowed := true }
def FieldChecksUptoSaid : Prop := fieldChecksUptoRow.holds Try.pinned (OpenSpec.upto fieldChecksSpec)

/-- 'reachlaw4.FieldCovers', WHERE WHAT IT READS IS OF BULK AT MOST 1048576: true; the input reads as it did. -/
def fieldCoversUptoRow : OpenClaim := { program := "ytaleaicfllcpiaa", sum := "6684c52188be3fbf9005ccc42607c90001d7499d34f44fc15ef20bc82f2da79a", func := "reach/reachlaw4.FieldCovers", spec := "fieldCovers", inPlace := ["internal/abi.NoEscape", "internal/bytealg.MakeNoZero"], recurses := true, apart := false, narrowed := true }
def FieldCoversUptoSaid : Prop := fieldCoversUptoRow.holds Try.pinned (OpenSpec.upto fieldCoversSpec)

/-- 'reachlaw4.FieldFewest', WHERE WHAT IT READS IS OF BULK AT MOST 1048576: true; the input reads as it did. -/
def fieldFewestUptoRow : OpenClaim := { program := "ytaleaicfllcpiaa", sum := "6684c52188be3fbf9005ccc42607c90001d7499d34f44fc15ef20bc82f2da79a", func := "reach/reachlaw4.FieldFewest", spec := "fieldFewest", inPlace := ["internal/abi.NoEscape", "internal/bytealg.MakeNoZero"], apart := false, narrowed := true }
def FieldFewestUptoSaid : Prop := fieldFewestUptoRow.holds Try.pinned (OpenSpec.upto fieldFewestSpec)

/-- 'reachlaw4.FieldPacks', WHERE WHAT IT READS IS OF BULK AT MOST 1048576: true; the input reads as it did. -/
def fieldPacksUptoRow : OpenClaim := { program := "ytaleaicfllcpiaa", sum := "6684c52188be3fbf9005ccc42607c90001d7499d34f44fc15ef20bc82f2da79a", func := "reach/reachlaw4.FieldPacks", spec := "fieldPacks", inPlace := ["internal/abi.NoEscape", "internal/bytealg.MakeNoZero"], apart := false, narrowed := true }
def FieldPacksUptoSaid : Prop := fieldPacksUptoRow.holds Try.pinned (OpenSpec.upto fieldPacksSpec)

/-- 'reachlaw4.FieldWords', WHERE WHAT IT READS IS OF BULK AT MOST 1048576: true; the input reads as it did. -/
def fieldWordsUptoRow : OpenClaim := { program := "ytaleaicfllcpiaa", sum := "6684c52188be3fbf9005ccc42607c90001d7499d34f44fc15ef20bc82f2da79a", func := "reach/reachlaw4.FieldWords", spec := "fieldWords", inPlace := ["internal/abi.NoEscape", "internal/bytealg.MakeNoZero"], apart := false, narrowed := true }
def FieldWordsUptoSaid : Prop := fieldWordsUptoRow.holds Try.pinned (OpenSpec.upto fieldWordsSpec)

end Rows
end Go.Proofs.Ytaleaicfllcpiaa
