/-
  No cell of these rows narrows 'for every input' (looked for: loops, veiled, ifaces, maps, wideKeys, modest, calm, conditions, laid).
  DERIVED. THE GIVEN ROWS OF THIS SEAT. 19 by the template 'for every input the law returns true; each argument reads behind the call as it read before'; 0 by the template 'total and deterministic' (their statements: YtdiijannpfogdaaTotals.lean).
  GIVEN WITH THE SEED: the statements are not yours to turn. If you find one false, say at which input.
  Laid BY PROGRAM, IN A SANDBOX (cutbox-rows.mjs): the forced cells as the released guide's own fill.sh prints them over the translation 6b27bfc0ca687f87… (all of the seat's roots in one cut). By AI agents, Wed Nov 11 2026. No macro, syntax, notation, axiom, sorry.
-/
import Derived.Test.YtdiijannpfogdaaChecked
import GoSem.Claim
import GoSem.ClaimJoined
import GoSem.ClaimMapViews
import Derived.JoinedTies
import Derived.KernelRfl
namespace Go.Proofs.Ytdiijannpfogdaa
/- THE CELL 'sum', in the pinned program and in every row, IS THE sha256 OF THE DUMP (.gsa) THAT YtdiijannpfogdaaProg.lean LOADS. Nothing in Lean hashes anything: it is a label: what it is worth is what the hold of that sum in a sandbox is worth. -/
noncomputable def Try.pinned : Pinned := { name := "ytdiijannpfogdaa", sum := "6b27bfc0ca687f87ec8f0ca15d15399aa820e5b49bcfca2d4a560ca614909e47", checked := Try.checked }
namespace Rows
def none {H : Type} : Left H := { results := [], args := [] }

/-- 'reachlaw1.TernNames': WHATEVER THE INPUT: true; the input reads as it did. -/
def ternNamesSpec : ChangeSpec := { name := "ternNames", fn := fun _ => fun
  | [] => { results := [.lit (.bool true)], args := [] }
  | _ => none }
def ternNamesRow : OpenClaim := { program := "ytdiijannpfogdaa", sum := "6b27bfc0ca687f87ec8f0ca15d15399aa820e5b49bcfca2d4a560ca614909e47", func := "reach/reachlaw1.TernNames", spec := "ternNames", apart := false }
def TernNamesSaid : Prop := ternNamesRow.holds Try.pinned (OpenSpec.ofChange ternNamesSpec)

/-- ITS FALSE NEIGHBOUR: 'it returns false'. Refute it at one input. -/
def ternNamesWrong : ChangeSpec := { name := "ternNames", fn := fun _ => fun
  | [] => { results := [.lit (.bool false)], args := [] }
  | _ => none }
def TernNamesWrongFalsely : Prop := ternNamesRow.holds Try.pinned (OpenSpec.ofChange ternNamesWrong)

/-- 'reachlaw1.TernParses': WHATEVER THE INPUT: true; the input reads as it did. -/
def ternParsesSpec : ChangeSpec := { name := "ternParses", fn := fun _ => fun
  | [d] => { results := [.lit (.bool true)], args := [d] }
  | _ => none }
def ternParsesRow : OpenClaim := { program := "ytdiijannpfogdaa", sum := "6b27bfc0ca687f87ec8f0ca15d15399aa820e5b49bcfca2d4a560ca614909e47", func := "reach/reachlaw1.TernParses", spec := "ternParses", apart := false }
def TernParsesSaid : Prop := ternParsesRow.holds Try.pinned (OpenSpec.ofChange ternParsesSpec)

/-- ITS FALSE NEIGHBOUR: 'it returns false'. Refute it at one input. -/
def ternParsesWrong : ChangeSpec := { name := "ternParses", fn := fun _ => fun
  | [d] => { results := [.lit (.bool false)], args := [d] }
  | _ => none }
def TernParsesWrongFalsely : Prop := ternParsesRow.holds Try.pinned (OpenSpec.ofChange ternParsesWrong)

/-- 'reachlaw1.TernAlls': WHATEVER THE INPUT: true; the input reads as it did. -/
def ternAllsSpec : ChangeSpec := { name := "ternAlls", fn := fun _ => fun
  | [d] => { results := [.lit (.bool true)], args := [d] }
  | _ => none }
def ternAllsRow : OpenClaim := { program := "ytdiijannpfogdaa", sum := "6b27bfc0ca687f87ec8f0ca15d15399aa820e5b49bcfca2d4a560ca614909e47", func := "reach/reachlaw1.TernAlls", spec := "ternAlls", apart := false }
def TernAllsSaid : Prop := ternAllsRow.holds Try.pinned (OpenSpec.ofChange ternAllsSpec)

/-- ITS FALSE NEIGHBOUR: 'it returns false'. Refute it at one input. -/
def ternAllsWrong : ChangeSpec := { name := "ternAlls", fn := fun _ => fun
  | [d] => { results := [.lit (.bool false)], args := [d] }
  | _ => none }
def TernAllsWrongFalsely : Prop := ternAllsRow.holds Try.pinned (OpenSpec.ofChange ternAllsWrong)

/-- 'reachlaw1.TernWrites': WHATEVER THE INPUT: true; the input reads as it did. -/
def ternWritesSpec : ChangeSpec := { name := "ternWrites", fn := fun _ => fun
  | [d1, d2] => { results := [.lit (.bool true)], args := [d1, d2] }
  | _ => none }
def ternWritesRow : OpenClaim := { program := "ytdiijannpfogdaa", sum := "6b27bfc0ca687f87ec8f0ca15d15399aa820e5b49bcfca2d4a560ca614909e47", func := "reach/reachlaw1.TernWrites", spec := "ternWrites", apart := false }
def TernWritesSaid : Prop := ternWritesRow.holds Try.pinned (OpenSpec.ofChange ternWritesSpec)

/-- ITS FALSE NEIGHBOUR: 'it returns false'. Refute it at one input. -/
def ternWritesWrong : ChangeSpec := { name := "ternWrites", fn := fun _ => fun
  | [d1, d2] => { results := [.lit (.bool false)], args := [d1, d2] }
  | _ => none }
def TernWritesWrongFalsely : Prop := ternWritesRow.holds Try.pinned (OpenSpec.ofChange ternWritesWrong)

/-- 'reachlaw1.TernHas': WHATEVER THE INPUT: true; the input reads as it did. -/
def ternHasSpec : ChangeSpec := { name := "ternHas", fn := fun _ => fun
  | [d1, d2] => { results := [.lit (.bool true)], args := [d1, d2] }
  | _ => none }
def ternHasRow : OpenClaim := { program := "ytdiijannpfogdaa", sum := "6b27bfc0ca687f87ec8f0ca15d15399aa820e5b49bcfca2d4a560ca614909e47", func := "reach/reachlaw1.TernHas", spec := "ternHas", apart := false }
def TernHasSaid : Prop := ternHasRow.holds Try.pinned (OpenSpec.ofChange ternHasSpec)

/-- ITS FALSE NEIGHBOUR: 'it returns false'. Refute it at one input. -/
def ternHasWrong : ChangeSpec := { name := "ternHas", fn := fun _ => fun
  | [d1, d2] => { results := [.lit (.bool false)], args := [d1, d2] }
  | _ => none }
def TernHasWrongFalsely : Prop := ternHasRow.holds Try.pinned (OpenSpec.ofChange ternHasWrong)

/-- 'reachlaw1.TernMeets': WHATEVER THE INPUT: true; the input reads as it did. -/
def ternMeetsSpec : ChangeSpec := { name := "ternMeets", fn := fun _ => fun
  | [d1, d2] => { results := [.lit (.bool true)], args := [d1, d2] }
  | _ => none }
def ternMeetsRow : OpenClaim := { program := "ytdiijannpfogdaa", sum := "6b27bfc0ca687f87ec8f0ca15d15399aa820e5b49bcfca2d4a560ca614909e47", func := "reach/reachlaw1.TernMeets", spec := "ternMeets", apart := false }
def TernMeetsSaid : Prop := ternMeetsRow.holds Try.pinned (OpenSpec.ofChange ternMeetsSpec)

/-- ITS FALSE NEIGHBOUR: 'it returns false'. Refute it at one input. -/
def ternMeetsWrong : ChangeSpec := { name := "ternMeets", fn := fun _ => fun
  | [d1, d2] => { results := [.lit (.bool false)], args := [d1, d2] }
  | _ => none }
def TernMeetsWrongFalsely : Prop := ternMeetsRow.holds Try.pinned (OpenSpec.ofChange ternMeetsWrong)

/-- 'reachlaw1.TernHulls': WHATEVER THE INPUT: true; the input reads as it did. -/
def ternHullsSpec : ChangeSpec := { name := "ternHulls", fn := fun _ => fun
  | [d1, d2] => { results := [.lit (.bool true)], args := [d1, d2] }
  | _ => none }
def ternHullsRow : OpenClaim := { program := "ytdiijannpfogdaa", sum := "6b27bfc0ca687f87ec8f0ca15d15399aa820e5b49bcfca2d4a560ca614909e47", func := "reach/reachlaw1.TernHulls", spec := "ternHulls", apart := false }
def TernHullsSaid : Prop := ternHullsRow.holds Try.pinned (OpenSpec.ofChange ternHullsSpec)

/-- ITS FALSE NEIGHBOUR: 'it returns false'. Refute it at one input. -/
def ternHullsWrong : ChangeSpec := { name := "ternHulls", fn := fun _ => fun
  | [d1, d2] => { results := [.lit (.bool false)], args := [d1, d2] }
  | _ => none }
def TernHullsWrongFalsely : Prop := ternHullsRow.holds Try.pinned (OpenSpec.ofChange ternHullsWrong)

/-- 'reachlaw1.TernWithin': WHATEVER THE INPUT: true; the input reads as it did. -/
def ternWithinSpec : ChangeSpec := { name := "ternWithin", fn := fun _ => fun
  | [d1, d2] => { results := [.lit (.bool true)], args := [d1, d2] }
  | _ => none }
def ternWithinRow : OpenClaim := { program := "ytdiijannpfogdaa", sum := "6b27bfc0ca687f87ec8f0ca15d15399aa820e5b49bcfca2d4a560ca614909e47", func := "reach/reachlaw1.TernWithin", spec := "ternWithin", apart := false }
def TernWithinSaid : Prop := ternWithinRow.holds Try.pinned (OpenSpec.ofChange ternWithinSpec)

/-- ITS FALSE NEIGHBOUR: 'it returns false'. Refute it at one input. -/
def ternWithinWrong : ChangeSpec := { name := "ternWithin", fn := fun _ => fun
  | [d1, d2] => { results := [.lit (.bool false)], args := [d1, d2] }
  | _ => none }
def TernWithinWrongFalsely : Prop := ternWithinRow.holds Try.pinned (OpenSpec.ofChange ternWithinWrong)

/-- 'reachlaw1.TernOrder': WHATEVER THE INPUT: true; the input reads as it did. -/
def ternOrderSpec : ChangeSpec := { name := "ternOrder", fn := fun _ => fun
  | [d1, d2, d3] => { results := [.lit (.bool true)], args := [d1, d2, d3] }
  | _ => none }
def ternOrderRow : OpenClaim := { program := "ytdiijannpfogdaa", sum := "6b27bfc0ca687f87ec8f0ca15d15399aa820e5b49bcfca2d4a560ca614909e47", func := "reach/reachlaw1.TernOrder", spec := "ternOrder", apart := false }
def TernOrderSaid : Prop := ternOrderRow.holds Try.pinned (OpenSpec.ofChange ternOrderSpec)

/-- ITS FALSE NEIGHBOUR: 'it returns false'. Refute it at one input. -/
def ternOrderWrong : ChangeSpec := { name := "ternOrder", fn := fun _ => fun
  | [d1, d2, d3] => { results := [.lit (.bool false)], args := [d1, d2, d3] }
  | _ => none }
def TernOrderWrongFalsely : Prop := ternOrderRow.holds Try.pinned (OpenSpec.ofChange ternOrderWrong)

/-- 'reachlaw1.TernBefores': WHATEVER THE INPUT: true; the input reads as it did. -/
def ternBeforesSpec : ChangeSpec := { name := "ternBefores", fn := fun _ => fun
  | [d1, d2] => { results := [.lit (.bool true)], args := [d1, d2] }
  | _ => none }
def ternBeforesRow : OpenClaim := { program := "ytdiijannpfogdaa", sum := "6b27bfc0ca687f87ec8f0ca15d15399aa820e5b49bcfca2d4a560ca614909e47", func := "reach/reachlaw1.TernBefores", spec := "ternBefores", apart := false }
def TernBeforesSaid : Prop := ternBeforesRow.holds Try.pinned (OpenSpec.ofChange ternBeforesSpec)

/-- ITS FALSE NEIGHBOUR: 'it returns false'. Refute it at one input. -/
def ternBeforesWrong : ChangeSpec := { name := "ternBefores", fn := fun _ => fun
  | [d1, d2] => { results := [.lit (.bool false)], args := [d1, d2] }
  | _ => none }
def TernBeforesWrongFalsely : Prop := ternBeforesRow.holds Try.pinned (OpenSpec.ofChange ternBeforesWrong)

/-- 'reachlaw1.TernSplits': WHATEVER THE INPUT: true; the input reads as it did. -/
def ternSplitsSpec : ChangeSpec := { name := "ternSplits", fn := fun _ => fun
  | [d1, d2] => { results := [.lit (.bool true)], args := [d1, d2] }
  | _ => none }
def ternSplitsRow : OpenClaim := { program := "ytdiijannpfogdaa", sum := "6b27bfc0ca687f87ec8f0ca15d15399aa820e5b49bcfca2d4a560ca614909e47", func := "reach/reachlaw1.TernSplits", spec := "ternSplits", apart := false }
def TernSplitsSaid : Prop := ternSplitsRow.holds Try.pinned (OpenSpec.ofChange ternSplitsSpec)

/-- ITS FALSE NEIGHBOUR: 'it returns false'. Refute it at one input. -/
def ternSplitsWrong : ChangeSpec := { name := "ternSplits", fn := fun _ => fun
  | [d1, d2] => { results := [.lit (.bool false)], args := [d1, d2] }
  | _ => none }
def TernSplitsWrongFalsely : Prop := ternSplitsRow.holds Try.pinned (OpenSpec.ofChange ternSplitsWrong)

/-- 'reachlaw1.TernOwn': WHATEVER THE INPUT: true; the input reads as it did. -/
def ternOwnSpec : ChangeSpec := { name := "ternOwn", fn := fun _ => fun
  | [d] => { results := [.lit (.bool true)], args := [d] }
  | _ => none }
def ternOwnRow : OpenClaim := { program := "ytdiijannpfogdaa", sum := "6b27bfc0ca687f87ec8f0ca15d15399aa820e5b49bcfca2d4a560ca614909e47", func := "reach/reachlaw1.TernOwn", spec := "ternOwn", apart := false }
def TernOwnSaid : Prop := ternOwnRow.holds Try.pinned (OpenSpec.ofChange ternOwnSpec)

/-- ITS FALSE NEIGHBOUR: 'it returns false'. Refute it at one input. -/
def ternOwnWrong : ChangeSpec := { name := "ternOwn", fn := fun _ => fun
  | [d] => { results := [.lit (.bool false)], args := [d] }
  | _ => none }
def TernOwnWrongFalsely : Prop := ternOwnRow.holds Try.pinned (OpenSpec.ofChange ternOwnWrong)

/-- 'reachlaw1.TernLeastHull': WHATEVER THE INPUT: true; the input reads as it did. -/
def ternLeastHullSpec : ChangeSpec := { name := "ternLeastHull", fn := fun _ => fun
  | [d1, d2, d3] => { results := [.lit (.bool true)], args := [d1, d2, d3] }
  | _ => none }
def ternLeastHullRow : OpenClaim := { program := "ytdiijannpfogdaa", sum := "6b27bfc0ca687f87ec8f0ca15d15399aa820e5b49bcfca2d4a560ca614909e47", func := "reach/reachlaw1.TernLeastHull", spec := "ternLeastHull", apart := false }
def TernLeastHullSaid : Prop := ternLeastHullRow.holds Try.pinned (OpenSpec.ofChange ternLeastHullSpec)

/-- ITS FALSE NEIGHBOUR: 'it returns false'. Refute it at one input. -/
def ternLeastHullWrong : ChangeSpec := { name := "ternLeastHull", fn := fun _ => fun
  | [d1, d2, d3] => { results := [.lit (.bool false)], args := [d1, d2, d3] }
  | _ => none }
def TernLeastHullWrongFalsely : Prop := ternLeastHullRow.holds Try.pinned (OpenSpec.ofChange ternLeastHullWrong)

/-- 'reachlaw1.TernMembers': WHATEVER THE INPUT: true; the input reads as it did. -/
def ternMembersSpec : ChangeSpec := { name := "ternMembers", fn := fun _ => fun
  | [d1, d2, d3] => { results := [.lit (.bool true)], args := [d1, d2, d3] }
  | _ => none }
def ternMembersRow : OpenClaim := { program := "ytdiijannpfogdaa", sum := "6b27bfc0ca687f87ec8f0ca15d15399aa820e5b49bcfca2d4a560ca614909e47", func := "reach/reachlaw1.TernMembers", spec := "ternMembers", unfollowed := true, recurses := true, apart := false }
def TernMembersSaid : Prop := ternMembersRow.holds Try.pinned (OpenSpec.ofChange ternMembersSpec)

/-- ITS FALSE NEIGHBOUR: 'it returns false'. Refute it at one input. -/
def ternMembersWrong : ChangeSpec := { name := "ternMembers", fn := fun _ => fun
  | [d1, d2, d3] => { results := [.lit (.bool false)], args := [d1, d2, d3] }
  | _ => none }
def TernMembersWrongFalsely : Prop := ternMembersRow.holds Try.pinned (OpenSpec.ofChange ternMembersWrong)

/-- 'reachlaw1.TernNested': WHATEVER THE INPUT: true; the input reads as it did. -/
def ternNestedSpec : ChangeSpec := { name := "ternNested", fn := fun _ => fun
  | [d1, d2, d3] => { results := [.lit (.bool true)], args := [d1, d2, d3] }
  | _ => none }
def ternNestedRow : OpenClaim := { program := "ytdiijannpfogdaa", sum := "6b27bfc0ca687f87ec8f0ca15d15399aa820e5b49bcfca2d4a560ca614909e47", func := "reach/reachlaw1.TernNested", spec := "ternNested", unfollowed := true, recurses := true, apart := false }
def TernNestedSaid : Prop := ternNestedRow.holds Try.pinned (OpenSpec.ofChange ternNestedSpec)

/-- ITS FALSE NEIGHBOUR: 'it returns false'. Refute it at one input. -/
def ternNestedWrong : ChangeSpec := { name := "ternNested", fn := fun _ => fun
  | [d1, d2, d3] => { results := [.lit (.bool false)], args := [d1, d2, d3] }
  | _ => none }
def TernNestedWrongFalsely : Prop := ternNestedRow.holds Try.pinned (OpenSpec.ofChange ternNestedWrong)

/-- 'reachlaw1.TernRising': WHATEVER THE INPUT: true; the input reads as it did. -/
def ternRisingSpec : ChangeSpec := { name := "ternRising", fn := fun _ => fun
  | [d1, d2, d3] => { results := [.lit (.bool true)], args := [d1, d2, d3] }
  | _ => none }
def ternRisingRow : OpenClaim := { program := "ytdiijannpfogdaa", sum := "6b27bfc0ca687f87ec8f0ca15d15399aa820e5b49bcfca2d4a560ca614909e47", func := "reach/reachlaw1.TernRising", spec := "ternRising", unfollowed := true, recurses := true, apart := false }
def TernRisingSaid : Prop := ternRisingRow.holds Try.pinned (OpenSpec.ofChange ternRisingSpec)

/-- ITS FALSE NEIGHBOUR: 'it returns false'. Refute it at one input. -/
def ternRisingWrong : ChangeSpec := { name := "ternRising", fn := fun _ => fun
  | [d1, d2, d3] => { results := [.lit (.bool false)], args := [d1, d2, d3] }
  | _ => none }
def TernRisingWrongFalsely : Prop := ternRisingRow.holds Try.pinned (OpenSpec.ofChange ternRisingWrong)

/-- 'reachlaw1.TernParts': WHATEVER THE INPUT: true; the input reads as it did. -/
def ternPartsSpec : ChangeSpec := { name := "ternParts", fn := fun _ => fun
  | [d1, d2, d3] => { results := [.lit (.bool true)], args := [d1, d2, d3] }
  | _ => none }
def ternPartsRow : OpenClaim := { program := "ytdiijannpfogdaa", sum := "6b27bfc0ca687f87ec8f0ca15d15399aa820e5b49bcfca2d4a560ca614909e47", func := "reach/reachlaw1.TernParts", spec := "ternParts", apart := false }
def TernPartsSaid : Prop := ternPartsRow.holds Try.pinned (OpenSpec.ofChange ternPartsSpec)

/-- ITS FALSE NEIGHBOUR: 'it returns false'. Refute it at one input. -/
def ternPartsWrong : ChangeSpec := { name := "ternParts", fn := fun _ => fun
  | [d1, d2, d3] => { results := [.lit (.bool false)], args := [d1, d2, d3] }
  | _ => none }
def TernPartsWrongFalsely : Prop := ternPartsRow.holds Try.pinned (OpenSpec.ofChange ternPartsWrong)

/-- 'reachlaw1.TernImages': WHATEVER THE INPUT: true; the input reads as it did. -/
def ternImagesSpec : ChangeSpec := { name := "ternImages", fn := fun _ => fun
  | [d1, d2, d3] => { results := [.lit (.bool true)], args := [d1, d2, d3] }
  | _ => none }
def ternImagesRow : OpenClaim := { program := "ytdiijannpfogdaa", sum := "6b27bfc0ca687f87ec8f0ca15d15399aa820e5b49bcfca2d4a560ca614909e47", func := "reach/reachlaw1.TernImages", spec := "ternImages", apart := false }
def TernImagesSaid : Prop := ternImagesRow.holds Try.pinned (OpenSpec.ofChange ternImagesSpec)

/-- ITS FALSE NEIGHBOUR: 'it returns false'. Refute it at one input. -/
def ternImagesWrong : ChangeSpec := { name := "ternImages", fn := fun _ => fun
  | [d1, d2, d3] => { results := [.lit (.bool false)], args := [d1, d2, d3] }
  | _ => none }
def TernImagesWrongFalsely : Prop := ternImagesRow.holds Try.pinned (OpenSpec.ofChange ternImagesWrong)

/-- 'reachlaw1.TernZeros': WHATEVER THE INPUT: true; the input reads as it did. -/
def ternZerosSpec : ChangeSpec := { name := "ternZeros", fn := fun _ => fun
  | [d1, d2] => { results := [.lit (.bool true)], args := [d1, d2] }
  | _ => none }
def ternZerosRow : OpenClaim := { program := "ytdiijannpfogdaa", sum := "6b27bfc0ca687f87ec8f0ca15d15399aa820e5b49bcfca2d4a560ca614909e47", func := "reach/reachlaw1.TernZeros", spec := "ternZeros", unfollowed := true, recurses := true, apart := false }
def TernZerosSaid : Prop := ternZerosRow.holds Try.pinned (OpenSpec.ofChange ternZerosSpec)

/-- ITS FALSE NEIGHBOUR: 'it returns false'. Refute it at one input. -/
def ternZerosWrong : ChangeSpec := { name := "ternZeros", fn := fun _ => fun
  | [d1, d2] => { results := [.lit (.bool false)], args := [d1, d2] }
  | _ => none }
def TernZerosWrongFalsely : Prop := ternZerosRow.holds Try.pinned (OpenSpec.ofChange ternZerosWrong)

/- THE SECOND FORM. 'bulk': how many values and letters a reading holds, each counted each time it is reached (what is shared counts as often as it is met; a slice's spare places count too). A statement '..UptoSaid' is the law's where the arguments, and the package variables that the reading takes, are together of bulk at most 1048576: NARROWER than '..Said'. Prove '..Said' where nothing that the law and all that it calls make is longer than what came in: it says more and counts as full. Else prove '..UptoSaid'. A law counts once. -/
mutual
def uptoBulk {H : Type} : DataW H → Nat
  | .lit (.string bytes) => bytes.length + 1
  | .lit _ => 1
  | .nil => 1
  | .ptr d => uptoBulk d + 1
  | .slice elems spare => uptoBulkAll elems + uptoBulkAll spare + 1
  | .agg parts => uptoBulkAll parts + 1
  | .iface _ d => uptoBulk d + 1
  | .map entries => uptoBulkEntries entries + 1
  | .held _ => 1
def uptoBulkAll {H : Type} : List (DataW H) → Nat
  | [] => 0
  | d :: r => uptoBulk d + uptoBulkAll r
def uptoBulkEntries {H : Type} : List (Lit × DataW H) → Nat
  | [] => 0
  | x :: r => uptoBulkEntry x + uptoBulkEntries r
def uptoBulkEntry {H : Type} : Lit × DataW H → Nat
  | (.string bytes, d) => bytes.length + uptoBulk d + 1
  | (_, d) => uptoBulk d + 1
 end
def uptoSmall : (H : Type) → List (DataW H) → Bool := fun _ ds => decide (uptoBulkAll ds ≤ 1048576)
def OpenSpec.upto (s : _root_.Go.ChangeSpec) : _root_.Go.OpenSpec := { _root_.Go.OpenSpec.ofChange s with cond := some uptoSmall }

/-- 'reachlaw1.TernNames', WHERE WHAT IT READS IS OF BULK AT MOST 1048576: true; the input reads as it did. -/
def ternNamesUptoRow : OpenClaim := { program := "ytdiijannpfogdaa", sum := "6b27bfc0ca687f87ec8f0ca15d15399aa820e5b49bcfca2d4a560ca614909e47", func := "reach/reachlaw1.TernNames", spec := "ternNames", apart := false, narrowed := true }
def TernNamesUptoSaid : Prop := ternNamesUptoRow.holds Try.pinned (OpenSpec.upto ternNamesSpec)

/-- 'reachlaw1.TernParses', WHERE WHAT IT READS IS OF BULK AT MOST 1048576: true; the input reads as it did. -/
def ternParsesUptoRow : OpenClaim := { program := "ytdiijannpfogdaa", sum := "6b27bfc0ca687f87ec8f0ca15d15399aa820e5b49bcfca2d4a560ca614909e47", func := "reach/reachlaw1.TernParses", spec := "ternParses", apart := false, narrowed := true }
def TernParsesUptoSaid : Prop := ternParsesUptoRow.holds Try.pinned (OpenSpec.upto ternParsesSpec)

/-- 'reachlaw1.TernAlls', WHERE WHAT IT READS IS OF BULK AT MOST 1048576: true; the input reads as it did. -/
def ternAllsUptoRow : OpenClaim := { program := "ytdiijannpfogdaa", sum := "6b27bfc0ca687f87ec8f0ca15d15399aa820e5b49bcfca2d4a560ca614909e47", func := "reach/reachlaw1.TernAlls", spec := "ternAlls", apart := false, narrowed := true }
def TernAllsUptoSaid : Prop := ternAllsUptoRow.holds Try.pinned (OpenSpec.upto ternAllsSpec)

/-- 'reachlaw1.TernWrites', WHERE WHAT IT READS IS OF BULK AT MOST 1048576: true; the input reads as it did. -/
def ternWritesUptoRow : OpenClaim := { program := "ytdiijannpfogdaa", sum := "6b27bfc0ca687f87ec8f0ca15d15399aa820e5b49bcfca2d4a560ca614909e47", func := "reach/reachlaw1.TernWrites", spec := "ternWrites", apart := false, narrowed := true }
def TernWritesUptoSaid : Prop := ternWritesUptoRow.holds Try.pinned (OpenSpec.upto ternWritesSpec)

/-- 'reachlaw1.TernHas', WHERE WHAT IT READS IS OF BULK AT MOST 1048576: true; the input reads as it did. -/
def ternHasUptoRow : OpenClaim := { program := "ytdiijannpfogdaa", sum := "6b27bfc0ca687f87ec8f0ca15d15399aa820e5b49bcfca2d4a560ca614909e47", func := "reach/reachlaw1.TernHas", spec := "ternHas", apart := false, narrowed := true }
def TernHasUptoSaid : Prop := ternHasUptoRow.holds Try.pinned (OpenSpec.upto ternHasSpec)

/-- 'reachlaw1.TernMeets', WHERE WHAT IT READS IS OF BULK AT MOST 1048576: true; the input reads as it did. -/
def ternMeetsUptoRow : OpenClaim := { program := "ytdiijannpfogdaa", sum := "6b27bfc0ca687f87ec8f0ca15d15399aa820e5b49bcfca2d4a560ca614909e47", func := "reach/reachlaw1.TernMeets", spec := "ternMeets", apart := false, narrowed := true }
def TernMeetsUptoSaid : Prop := ternMeetsUptoRow.holds Try.pinned (OpenSpec.upto ternMeetsSpec)

/-- 'reachlaw1.TernHulls', WHERE WHAT IT READS IS OF BULK AT MOST 1048576: true; the input reads as it did. -/
def ternHullsUptoRow : OpenClaim := { program := "ytdiijannpfogdaa", sum := "6b27bfc0ca687f87ec8f0ca15d15399aa820e5b49bcfca2d4a560ca614909e47", func := "reach/reachlaw1.TernHulls", spec := "ternHulls", apart := false, narrowed := true }
def TernHullsUptoSaid : Prop := ternHullsUptoRow.holds Try.pinned (OpenSpec.upto ternHullsSpec)

/-- 'reachlaw1.TernWithin', WHERE WHAT IT READS IS OF BULK AT MOST 1048576: true; the input reads as it did. -/
def ternWithinUptoRow : OpenClaim := { program := "ytdiijannpfogdaa", sum := "6b27bfc0ca687f87ec8f0ca15d15399aa820e5b49bcfca2d4a560ca614909e47", func := "reach/reachlaw1.TernWithin", spec := "ternWithin", apart := false, narrowed := true }
def TernWithinUptoSaid : Prop := ternWithinUptoRow.holds Try.pinned (OpenSpec.upto ternWithinSpec)

/-- 'reachlaw1.TernOrder', WHERE WHAT IT READS IS OF BULK AT MOST 1048576: true; the input reads as it did. -/
def ternOrderUptoRow : OpenClaim := { program := "ytdiijannpfogdaa", sum := "6b27bfc0ca687f87ec8f0ca15d15399aa820e5b49bcfca2d4a560ca614909e47", func := "reach/reachlaw1.TernOrder", spec := "ternOrder", apart := false, narrowed := true }
def TernOrderUptoSaid : Prop := ternOrderUptoRow.holds Try.pinned (OpenSpec.upto ternOrderSpec)

/-- 'reachlaw1.TernBefores', WHERE WHAT IT READS IS OF BULK AT MOST 1048576: true; the input reads as it did. -/
def ternBeforesUptoRow : OpenClaim := { program := "ytdiijannpfogdaa", sum := "6b27bfc0ca687f87ec8f0ca15d15399aa820e5b49bcfca2d4a560ca614909e47", func := "reach/reachlaw1.TernBefores", spec := "ternBefores", apart := false, narrowed := true }
def TernBeforesUptoSaid : Prop := ternBeforesUptoRow.holds Try.pinned (OpenSpec.upto ternBeforesSpec)

/-- 'reachlaw1.TernSplits', WHERE WHAT IT READS IS OF BULK AT MOST 1048576: true; the input reads as it did. -/
def ternSplitsUptoRow : OpenClaim := { program := "ytdiijannpfogdaa", sum := "6b27bfc0ca687f87ec8f0ca15d15399aa820e5b49bcfca2d4a560ca614909e47", func := "reach/reachlaw1.TernSplits", spec := "ternSplits", apart := false, narrowed := true }
def TernSplitsUptoSaid : Prop := ternSplitsUptoRow.holds Try.pinned (OpenSpec.upto ternSplitsSpec)

/-- 'reachlaw1.TernOwn', WHERE WHAT IT READS IS OF BULK AT MOST 1048576: true; the input reads as it did. -/
def ternOwnUptoRow : OpenClaim := { program := "ytdiijannpfogdaa", sum := "6b27bfc0ca687f87ec8f0ca15d15399aa820e5b49bcfca2d4a560ca614909e47", func := "reach/reachlaw1.TernOwn", spec := "ternOwn", apart := false, narrowed := true }
def TernOwnUptoSaid : Prop := ternOwnUptoRow.holds Try.pinned (OpenSpec.upto ternOwnSpec)

/-- 'reachlaw1.TernLeastHull', WHERE WHAT IT READS IS OF BULK AT MOST 1048576: true; the input reads as it did. -/
def ternLeastHullUptoRow : OpenClaim := { program := "ytdiijannpfogdaa", sum := "6b27bfc0ca687f87ec8f0ca15d15399aa820e5b49bcfca2d4a560ca614909e47", func := "reach/reachlaw1.TernLeastHull", spec := "ternLeastHull", apart := false, narrowed := true }
def TernLeastHullUptoSaid : Prop := ternLeastHullUptoRow.holds Try.pinned (OpenSpec.upto ternLeastHullSpec)

/-- 'reachlaw1.TernMembers', WHERE WHAT IT READS IS OF BULK AT MOST 1048576: true; the input reads as it did. -/
def ternMembersUptoRow : OpenClaim := { program := "ytdiijannpfogdaa", sum := "6b27bfc0ca687f87ec8f0ca15d15399aa820e5b49bcfca2d4a560ca614909e47", func := "reach/reachlaw1.TernMembers", spec := "ternMembers", unfollowed := true, recurses := true, apart := false, narrowed := true }
def TernMembersUptoSaid : Prop := ternMembersUptoRow.holds Try.pinned (OpenSpec.upto ternMembersSpec)

/-- 'reachlaw1.TernNested', WHERE WHAT IT READS IS OF BULK AT MOST 1048576: true; the input reads as it did. -/
def ternNestedUptoRow : OpenClaim := { program := "ytdiijannpfogdaa", sum := "6b27bfc0ca687f87ec8f0ca15d15399aa820e5b49bcfca2d4a560ca614909e47", func := "reach/reachlaw1.TernNested", spec := "ternNested", unfollowed := true, recurses := true, apart := false, narrowed := true }
def TernNestedUptoSaid : Prop := ternNestedUptoRow.holds Try.pinned (OpenSpec.upto ternNestedSpec)

/-- 'reachlaw1.TernRising', WHERE WHAT IT READS IS OF BULK AT MOST 1048576: true; the input reads as it did. -/
def ternRisingUptoRow : OpenClaim := { program := "ytdiijannpfogdaa", sum := "6b27bfc0ca687f87ec8f0ca15d15399aa820e5b49bcfca2d4a560ca614909e47", func := "reach/reachlaw1.TernRising", spec := "ternRising", unfollowed := true, recurses := true, apart := false, narrowed := true }
def TernRisingUptoSaid : Prop := ternRisingUptoRow.holds Try.pinned (OpenSpec.upto ternRisingSpec)

/-- 'reachlaw1.TernParts', WHERE WHAT IT READS IS OF BULK AT MOST 1048576: true; the input reads as it did. -/
def ternPartsUptoRow : OpenClaim := { program := "ytdiijannpfogdaa", sum := "6b27bfc0ca687f87ec8f0ca15d15399aa820e5b49bcfca2d4a560ca614909e47", func := "reach/reachlaw1.TernParts", spec := "ternParts", apart := false, narrowed := true }
def TernPartsUptoSaid : Prop := ternPartsUptoRow.holds Try.pinned (OpenSpec.upto ternPartsSpec)

/-- 'reachlaw1.TernImages', WHERE WHAT IT READS IS OF BULK AT MOST 1048576: true; the input reads as it did. -/
def ternImagesUptoRow : OpenClaim := { program := "ytdiijannpfogdaa", sum := "6b27bfc0ca687f87ec8f0ca15d15399aa820e5b49bcfca2d4a560ca614909e47", func := "reach/reachlaw1.TernImages", spec := "ternImages", apart := false, narrowed := true }
def TernImagesUptoSaid : Prop := ternImagesUptoRow.holds Try.pinned (OpenSpec.upto ternImagesSpec)

/-- 'reachlaw1.TernZeros', WHERE WHAT IT READS IS OF BULK AT MOST 1048576: true; the input reads as it did. -/
def ternZerosUptoRow : OpenClaim := { program := "ytdiijannpfogdaa", sum := "6b27bfc0ca687f87ec8f0ca15d15399aa820e5b49bcfca2d4a560ca614909e47", func := "reach/reachlaw1.TernZeros", spec := "ternZeros", unfollowed := true, recurses := true, apart := false, narrowed := true }
def TernZerosUptoSaid : Prop := ternZerosUptoRow.holds Try.pinned (OpenSpec.upto ternZerosSpec)

end Rows
end Go.Proofs.Ytdiijannpfogdaa
