/-
  DERIVED. GIVEN WITH THE SEED: THE CARDS: each row of YtlakglphjhoodaaDoorRows.lean that lists a variable, with what it lists TIED to the program's text (the seventh form; the later family's looks); each row that meets fmt, with fmt's text TOLD by the authors' own Lean function (tested against real Go, not proved from fmt's source: count such statements apart). THE CARD IS WHAT COUNTS. Prove the row's statement (the work); the ties are given (YtlakglphjhoodaaDoorTie.lean); close each card by the builder's one call (the guide's Derived/Test/ToyasCard.lean, 'card_holds'). Laid BY PROGRAM, IN A SANDBOX (cutbox-door.mjs). By AI agents, Wed Nov 11 2026. No macro, syntax, notation, axiom, sorry.
-/
import Derived.Test.YtlakglphjhoodaaDoorRows
import GoSem.ClaimSeven
namespace Go.Proofs.YtlakglphjhoodaaDoor
namespace Rows

/-- THE TIED CARD OF 'reachlaw4.FieldOwn'. -/
def fieldOwnCard : Claim7 := { stood := { row := fieldOwnRow, standIns := [], harness := (true, "ac8472c6fe4b6b75a3f85e3392f22519a040fa07ded8e5bb37eb8420741c73df"), looks := false }, kinds := [], alts := [], laidByText := true, laidKinds := [.data, .data, .pinned], laidTests := true, laidLooks := .later }
def FieldOwnCardSaid : Prop := Claim7.holds Tryd.pinned (.plain (OpenSpec.ofChange fieldOwnSpec)) fieldOwnCard

/-- THE SECOND FORM's CARD OF 'reachlaw4.FieldOwn'. -/
def fieldOwnUptoCard : Claim7 := { stood := { row := fieldOwnUptoRow, standIns := [], harness := (true, "ac8472c6fe4b6b75a3f85e3392f22519a040fa07ded8e5bb37eb8420741c73df"), looks := false }, kinds := [], alts := [], laidByText := true, laidKinds := [.data, .data, .pinned], laidTests := true, laidLooks := .later }
def FieldOwnUptoCardSaid : Prop := Claim7.holds Tryd.pinned (.plain (OpenSpec.upto fieldOwnSpec)) fieldOwnUptoCard
end Rows
end Go.Proofs.YtlakglphjhoodaaDoor
