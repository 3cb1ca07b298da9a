/-
  DERIVED. GIVEN WITH THE SEED: THE CARDS: each row of YtagjpdeolodpkaaGreatDoorRows.lean that lists a variable, with what it lists TIED to the program's text (the seventh form; the later family's looks); each row that meets fmt, with fmt's text TOLD by the authors' own Lean function (tested against real Go, not proved from fmt's source: count such statements apart). THE CARD IS WHAT COUNTS. Prove the row's statement (the work); the ties are given (YtagjpdeolodpkaaGreatDoorTie.lean); close each card by the builder's one call (the guide's Derived/Test/ToyasCard.lean, 'card_holds'). Laid BY PROGRAM, IN A SANDBOX (cutbox-door.mjs). By AI agents, Wed Nov 11 2026. No macro, syntax, notation, axiom, sorry.
-/
import Derived.Test.YtagjpdeolodpkaaGreatDoorRows
import GoSem.ClaimSeven
namespace Go.Proofs.YtagjpdeolodpkaaGreatDoor
namespace Rows

/-- THE TIED CARD OF 'reachlaw4.FieldTurns'. -/
def fieldTurnsCard : Claim7 := { stood := { row := fieldTurnsRow, standIns := [], harness := (true, "01952e84c29ff80f795a94c0ec3864de89723be4dcc17c31e670371c869ef0ec"), looks := false }, kinds := [], alts := [], laidByText := true, laidKinds := [.data, .data, .data, .data, .data, .pinned], laidTests := true, laidLooks := .later }
def FieldTurnsCardSaid : Prop := Claim7.holds Tryz.pinned (.plain (OpenSpec.ofChange fieldTurnsSpec)) fieldTurnsCard

/-- THE SECOND FORM's CARD OF 'reachlaw4.FieldTurns'. -/
def fieldTurnsUptoCard : Claim7 := { stood := { row := fieldTurnsUptoRow, standIns := [], harness := (true, "01952e84c29ff80f795a94c0ec3864de89723be4dcc17c31e670371c869ef0ec"), looks := false }, kinds := [], alts := [], laidByText := true, laidKinds := [.data, .data, .data, .data, .data, .pinned], laidTests := true, laidLooks := .later }
def FieldTurnsUptoCardSaid : Prop := Claim7.holds Tryz.pinned (.plain (OpenSpec.upto fieldTurnsSpec)) fieldTurnsUptoCard
end Rows
end Go.Proofs.YtagjpdeolodpkaaGreatDoor
