/-
  DERIVED. GIVEN WITH THE SEED: THE CARDS: each row of YtcofndegcleicaaDoorRows.lean that lists a variable, with what it lists TIED to the program's text (the seventh form; the later family's looks); each row that meets fmt, with fmt's text TOLD by the authors' own Lean function (tested against real Go, not proved from fmt's source: count such statements apart). THE CARD IS WHAT COUNTS. Prove the row's statement (the work); the ties are given (YtcofndegcleicaaDoorTie.lean); close each card by the builder's one call (the guide's Derived/Test/ToyasCard.lean, 'card_holds'). Laid BY PROGRAM, IN A SANDBOX (cutbox-door.mjs). By AI agents, Wed Nov 11 2026. No macro, syntax, notation, axiom, sorry.
-/
import Derived.Test.YtcofndegcleicaaDoorRows
import GoSem.ClaimSeven
namespace Go.Proofs.YtcofndegcleicaaDoor
namespace Rows

/-- THE TIED CARD OF 'reachlaw19.LedgerLists'. -/
def ledgerListsCard : Claim7 := { stood := { row := ledgerListsRow, standIns := [], harness := (true, "99ed4158d8ccb6d8a262b8aa08dc2cb2dd27e68ee910ce434d80a3dff7bf5f90"), looks := true }, kinds := [], alts := [], laidByText := true, laidKinds := [.data, .data, .data, .data, .sentinel, .sentinel, .pinned], laidTests := true, laidLooks := .later }
def LedgerListsCardSaid : Prop := Claim7.holds Tryd.pinned (.plain (OpenSpec.ofChange ledgerListsSpec)) ledgerListsCard

/-- THE TIED CARD OF 'reachlaw19.LedgerPacks'. -/
def ledgerPacksCard : Claim7 := { stood := { row := ledgerPacksRow, standIns := [], harness := (true, "99ed4158d8ccb6d8a262b8aa08dc2cb2dd27e68ee910ce434d80a3dff7bf5f90"), looks := true }, kinds := [], alts := [], laidByText := true, laidKinds := [.data, .data, .data], laidTests := true, laidLooks := .later }
def LedgerPacksCardSaid : Prop := Claim7.holds Tryd.pinned (.plain (OpenSpec.ofChange ledgerPacksSpec)) ledgerPacksCard

/-- THE TIED CARD OF 'reachlaw19.LedgerPlaces'. -/
def ledgerPlacesCard : Claim7 := { stood := { row := ledgerPlacesRow, standIns := [], harness := (true, "99ed4158d8ccb6d8a262b8aa08dc2cb2dd27e68ee910ce434d80a3dff7bf5f90"), looks := true }, kinds := [], alts := [], laidByText := true, laidKinds := [.data, .data, .data], laidTests := true, laidLooks := .later }
def LedgerPlacesCardSaid : Prop := Claim7.holds Tryd.pinned (.plain (OpenSpec.ofChange ledgerPlacesSpec)) ledgerPlacesCard

/-- THE TIED CARD OF 'reachlaw19.LedgerUnpacks'. -/
def ledgerUnpacksCard : Claim7 := { stood := { row := ledgerUnpacksRow, standIns := [], harness := (true, "99ed4158d8ccb6d8a262b8aa08dc2cb2dd27e68ee910ce434d80a3dff7bf5f90"), looks := true }, kinds := [], alts := [], laidByText := true, laidKinds := [.data, .data, .data, .data, .sentinel, .sentinel, .pinned], laidTests := true, laidLooks := .later }
def LedgerUnpacksCardSaid : Prop := Claim7.holds Tryd.pinned (.plain (OpenSpec.ofChange ledgerUnpacksSpec)) ledgerUnpacksCard

/-- THE TIED CARD OF 'reachlaw19.LedgerLines'. -/
def ledgerLinesCard : Claim7 := { stood := { row := ledgerLinesRow, standIns := [], harness := (true, "99ed4158d8ccb6d8a262b8aa08dc2cb2dd27e68ee910ce434d80a3dff7bf5f90"), looks := true }, kinds := [], alts := [], laidByText := true, laidKinds := [.data, .data, .data, .data, .sentinel, .sentinel, .pinned], laidTests := true, laidLooks := .later }
def LedgerLinesCardSaid : Prop := Claim7.holds Tryd.pinned (.plain (OpenSpec.ofChange ledgerLinesSpec)) ledgerLinesCard

/-- THE SECOND FORM's CARD OF 'reachlaw19.LedgerLists'. -/
def ledgerListsUptoCard : Claim7 := { stood := { row := ledgerListsUptoRow, standIns := [], harness := (true, "99ed4158d8ccb6d8a262b8aa08dc2cb2dd27e68ee910ce434d80a3dff7bf5f90"), looks := true }, kinds := [], alts := [], laidByText := true, laidKinds := [.data, .data, .data, .data, .sentinel, .sentinel, .pinned], laidTests := true, laidLooks := .later }
def LedgerListsUptoCardSaid : Prop := Claim7.holds Tryd.pinned (.plain (OpenSpec.upto ledgerListsSpec)) ledgerListsUptoCard

/-- THE SECOND FORM's CARD OF 'reachlaw19.LedgerPacks'. -/
def ledgerPacksUptoCard : Claim7 := { stood := { row := ledgerPacksUptoRow, standIns := [], harness := (true, "99ed4158d8ccb6d8a262b8aa08dc2cb2dd27e68ee910ce434d80a3dff7bf5f90"), looks := true }, kinds := [], alts := [], laidByText := true, laidKinds := [.data, .data, .data], laidTests := true, laidLooks := .later }
def LedgerPacksUptoCardSaid : Prop := Claim7.holds Tryd.pinned (.plain (OpenSpec.upto ledgerPacksSpec)) ledgerPacksUptoCard

/-- THE SECOND FORM's CARD OF 'reachlaw19.LedgerPlaces'. -/
def ledgerPlacesUptoCard : Claim7 := { stood := { row := ledgerPlacesUptoRow, standIns := [], harness := (true, "99ed4158d8ccb6d8a262b8aa08dc2cb2dd27e68ee910ce434d80a3dff7bf5f90"), looks := true }, kinds := [], alts := [], laidByText := true, laidKinds := [.data, .data, .data], laidTests := true, laidLooks := .later }
def LedgerPlacesUptoCardSaid : Prop := Claim7.holds Tryd.pinned (.plain (OpenSpec.upto ledgerPlacesSpec)) ledgerPlacesUptoCard

/-- THE SECOND FORM's CARD OF 'reachlaw19.LedgerUnpacks'. -/
def ledgerUnpacksUptoCard : Claim7 := { stood := { row := ledgerUnpacksUptoRow, standIns := [], harness := (true, "99ed4158d8ccb6d8a262b8aa08dc2cb2dd27e68ee910ce434d80a3dff7bf5f90"), looks := true }, kinds := [], alts := [], laidByText := true, laidKinds := [.data, .data, .data, .data, .sentinel, .sentinel, .pinned], laidTests := true, laidLooks := .later }
def LedgerUnpacksUptoCardSaid : Prop := Claim7.holds Tryd.pinned (.plain (OpenSpec.upto ledgerUnpacksSpec)) ledgerUnpacksUptoCard

/-- THE SECOND FORM's CARD OF 'reachlaw19.LedgerLines'. -/
def ledgerLinesUptoCard : Claim7 := { stood := { row := ledgerLinesUptoRow, standIns := [], harness := (true, "99ed4158d8ccb6d8a262b8aa08dc2cb2dd27e68ee910ce434d80a3dff7bf5f90"), looks := true }, kinds := [], alts := [], laidByText := true, laidKinds := [.data, .data, .data, .data, .sentinel, .sentinel, .pinned], laidTests := true, laidLooks := .later }
def LedgerLinesUptoCardSaid : Prop := Claim7.holds Tryd.pinned (.plain (OpenSpec.upto ledgerLinesSpec)) ledgerLinesUptoCard
end Rows
end Go.Proofs.YtcofndegcleicaaDoor
