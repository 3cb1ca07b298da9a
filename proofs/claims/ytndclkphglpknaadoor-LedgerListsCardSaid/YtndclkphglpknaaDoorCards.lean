/-
  DERIVED. GIVEN WITH THE SEED: THE CARDS: each row of YtndclkphglpknaaDoorRows.lean that lists a variable, with what it lists TIED to the program's text (the seventh form; the later family's looks); each row that meets fmt, with fmt's text TOLD by the authors' own Lean function (tested against real Go, not proved from fmt's source: count such statements apart). THE CARD IS WHAT COUNTS. Prove the row's statement (the work); the ties are given (YtndclkphglpknaaDoorTie.lean); close each card by the builder's one call (the guide's Derived/Test/ToyasCard.lean, 'card_holds'). Laid BY PROGRAM, IN A SANDBOX (cutbox-door.mjs). By AI agents, Wed Nov 11 2026. No macro, syntax, notation, axiom, sorry.
-/
import Derived.Test.YtndclkphglpknaaDoorRows
import GoSem.ClaimSeven
namespace Go.Proofs.YtndclkphglpknaaDoor
namespace Rows

/-- THE TIED CARD OF 'reachlaw19.LedgerLists'. -/
def ledgerListsCard : Claim7 := { stood := { row := ledgerListsRow, standIns := [], harness := (true, "acb4a707a510e0b6abe1c9c953ee5987d8d7b07efe4c36d087aa282eb7417d2f"), looks := true }, kinds := [], alts := [], laidByText := true, laidKinds := [.data, .data, .data, .data, .sentinel, .sentinel, .pinned], laidTests := true, laidLooks := .later }
def LedgerListsCardSaid : Prop := Claim7.holds Tryd.pinned (.plain (OpenSpec.ofChange ledgerListsSpec)) ledgerListsCard

/-- THE SECOND FORM's CARD OF 'reachlaw19.LedgerLists'. -/
def ledgerListsUptoCard : Claim7 := { stood := { row := ledgerListsUptoRow, standIns := [], harness := (true, "acb4a707a510e0b6abe1c9c953ee5987d8d7b07efe4c36d087aa282eb7417d2f"), looks := true }, kinds := [], alts := [], laidByText := true, laidKinds := [.data, .data, .data, .data, .sentinel, .sentinel, .pinned], laidTests := true, laidLooks := .later }
def LedgerListsUptoCardSaid : Prop := Claim7.holds Tryd.pinned (.plain (OpenSpec.upto ledgerListsSpec)) ledgerListsUptoCard
end Rows
end Go.Proofs.YtndclkphglpknaaDoor
