/-
  DERIVED. GIVEN WITH THE SEED: THE CARDS: each row of YtaleaicfllcpiaaDoorRows.lean that lists a variable, with what it lists TIED to the program's text (the seventh form; the later family's looks); each row that meets fmt, with fmt's text TOLD by the authors' own Lean function (tested against real Go, not proved from fmt's source: count such statements apart). THE CARD IS WHAT COUNTS. Prove the row's statement (the work); the ties are given (YtaleaicfllcpiaaDoorTie.lean); close each card by the builder's one call (the guide's Derived/Test/ToyasCard.lean, 'card_holds'). Laid BY PROGRAM, IN A SANDBOX (cutbox-door.mjs). By AI agents, Wed Nov 11 2026. No macro, syntax, notation, axiom, sorry.
-/
import Derived.Test.YtaleaicfllcpiaaDoorRows
import GoSem.ClaimSeven
namespace Go.Proofs.YtaleaicfllcpiaaDoor
namespace Rows

/-- THE TIED CARD OF 'reachlaw4.FieldBack'. -/
def fieldBackCard : Claim7 := { stood := { row := fieldBackRow, standIns := [], harness := (true, "aef413c184ae60183216212568c126ab2775e6effea86c22d1b42df763f452a5"), looks := false }, kinds := [], alts := [], laidByText := true, laidKinds := [.data, .pinned], laidTests := true, laidLooks := .later }
def FieldBackCardSaid : Prop := Claim7.holds Tryd.pinned (.plain (OpenSpec.ofChange fieldBackSpec)) fieldBackCard

/-- THE TIED CARD OF 'reachlaw4.FieldUnpacks'. -/
def fieldUnpacksCard : Claim7 := { stood := { row := fieldUnpacksRow, standIns := [], harness := (true, "aef413c184ae60183216212568c126ab2775e6effea86c22d1b42df763f452a5"), looks := false }, kinds := [], alts := [], laidByText := true, laidKinds := [.data, .pinned], laidTests := true, laidLooks := .later }
def FieldUnpacksCardSaid : Prop := Claim7.holds Tryd.pinned (.plain (OpenSpec.ofChange fieldUnpacksSpec)) fieldUnpacksCard

/-- THE TIED CARD OF 'reachlaw4.FieldWrites'. -/
def fieldWritesCard : Claim7 := { stood := { row := fieldWritesRow, standIns := [], harness := (true, "aef413c184ae60183216212568c126ab2775e6effea86c22d1b42df763f452a5"), looks := false }, kinds := [], alts := [], laidByText := true, laidKinds := [.data, .pinned], laidTests := true, laidLooks := .later }
def FieldWritesCardSaid : Prop := Claim7.holds Tryd.pinned (.plain (OpenSpec.ofChange fieldWritesSpec)) fieldWritesCard

/-- THE TIED CARD OF 'reachlaw4.FieldCubes'. -/
def fieldCubesCard : Claim7 := { stood := { row := fieldCubesRow, standIns := [], harness := (true, "aef413c184ae60183216212568c126ab2775e6effea86c22d1b42df763f452a5"), looks := false }, kinds := [], alts := [], laidByText := true, laidKinds := [.data, .data, .pinned], laidTests := true, laidLooks := .later }
def FieldCubesCardSaid : Prop := Claim7.holds Tryd.pinned (.plain (OpenSpec.ofChange fieldCubesSpec)) fieldCubesCard

/-- THE TIED CARD OF 'reachlaw4.FieldHolds'. -/
def fieldHoldsCard : Claim7 := { stood := { row := fieldHoldsRow, standIns := [], harness := (true, "aef413c184ae60183216212568c126ab2775e6effea86c22d1b42df763f452a5"), looks := false }, kinds := [], alts := [], laidByText := true, laidKinds := [.data, .data, .pinned], laidTests := true, laidLooks := .later }
def FieldHoldsCardSaid : Prop := Claim7.holds Tryd.pinned (.plain (OpenSpec.ofChange fieldHoldsSpec)) fieldHoldsCard

/-- THE TIED CARD OF 'reachlaw4.FieldOwn'. -/
def fieldOwnCard : Claim7 := { stood := { row := fieldOwnRow, standIns := [], harness := (true, "aef413c184ae60183216212568c126ab2775e6effea86c22d1b42df763f452a5"), looks := false }, kinds := [], alts := [], laidByText := true, laidKinds := [.data, .data, .pinned], laidTests := true, laidLooks := .later }
def FieldOwnCardSaid : Prop := Claim7.holds Tryd.pinned (.plain (OpenSpec.ofChange fieldOwnSpec)) fieldOwnCard

/-- THE TIED CARD OF 'reachlaw4.FieldShows'. -/
def fieldShowsCard : Claim7 := { stood := { row := fieldShowsRow, standIns := [], harness := (true, "aef413c184ae60183216212568c126ab2775e6effea86c22d1b42df763f452a5"), looks := false }, kinds := [], alts := [], laidByText := true, laidKinds := [.data, .data, .data, .data, .pinned], laidTests := true, laidLooks := .later }
def FieldShowsCardSaid : Prop := Claim7.holds Tryd.pinned (.plain (OpenSpec.ofChange fieldShowsSpec)) fieldShowsCard

/-- THE SECOND FORM's CARD OF 'reachlaw4.FieldBack'. -/
def fieldBackUptoCard : Claim7 := { stood := { row := fieldBackUptoRow, standIns := [], harness := (true, "aef413c184ae60183216212568c126ab2775e6effea86c22d1b42df763f452a5"), looks := false }, kinds := [], alts := [], laidByText := true, laidKinds := [.data, .pinned], laidTests := true, laidLooks := .later }
def FieldBackUptoCardSaid : Prop := Claim7.holds Tryd.pinned (.plain (OpenSpec.upto fieldBackSpec)) fieldBackUptoCard

/-- THE SECOND FORM's CARD OF 'reachlaw4.FieldUnpacks'. -/
def fieldUnpacksUptoCard : Claim7 := { stood := { row := fieldUnpacksUptoRow, standIns := [], harness := (true, "aef413c184ae60183216212568c126ab2775e6effea86c22d1b42df763f452a5"), looks := false }, kinds := [], alts := [], laidByText := true, laidKinds := [.data, .pinned], laidTests := true, laidLooks := .later }
def FieldUnpacksUptoCardSaid : Prop := Claim7.holds Tryd.pinned (.plain (OpenSpec.upto fieldUnpacksSpec)) fieldUnpacksUptoCard

/-- THE SECOND FORM's CARD OF 'reachlaw4.FieldWrites'. -/
def fieldWritesUptoCard : Claim7 := { stood := { row := fieldWritesUptoRow, standIns := [], harness := (true, "aef413c184ae60183216212568c126ab2775e6effea86c22d1b42df763f452a5"), looks := false }, kinds := [], alts := [], laidByText := true, laidKinds := [.data, .pinned], laidTests := true, laidLooks := .later }
def FieldWritesUptoCardSaid : Prop := Claim7.holds Tryd.pinned (.plain (OpenSpec.upto fieldWritesSpec)) fieldWritesUptoCard

/-- THE SECOND FORM's CARD OF 'reachlaw4.FieldCubes'. -/
def fieldCubesUptoCard : Claim7 := { stood := { row := fieldCubesUptoRow, standIns := [], harness := (true, "aef413c184ae60183216212568c126ab2775e6effea86c22d1b42df763f452a5"), looks := false }, kinds := [], alts := [], laidByText := true, laidKinds := [.data, .data, .pinned], laidTests := true, laidLooks := .later }
def FieldCubesUptoCardSaid : Prop := Claim7.holds Tryd.pinned (.plain (OpenSpec.upto fieldCubesSpec)) fieldCubesUptoCard

/-- THE SECOND FORM's CARD OF 'reachlaw4.FieldHolds'. -/
def fieldHoldsUptoCard : Claim7 := { stood := { row := fieldHoldsUptoRow, standIns := [], harness := (true, "aef413c184ae60183216212568c126ab2775e6effea86c22d1b42df763f452a5"), looks := false }, kinds := [], alts := [], laidByText := true, laidKinds := [.data, .data, .pinned], laidTests := true, laidLooks := .later }
def FieldHoldsUptoCardSaid : Prop := Claim7.holds Tryd.pinned (.plain (OpenSpec.upto fieldHoldsSpec)) fieldHoldsUptoCard

/-- THE SECOND FORM's CARD OF 'reachlaw4.FieldOwn'. -/
def fieldOwnUptoCard : Claim7 := { stood := { row := fieldOwnUptoRow, standIns := [], harness := (true, "aef413c184ae60183216212568c126ab2775e6effea86c22d1b42df763f452a5"), looks := false }, kinds := [], alts := [], laidByText := true, laidKinds := [.data, .data, .pinned], laidTests := true, laidLooks := .later }
def FieldOwnUptoCardSaid : Prop := Claim7.holds Tryd.pinned (.plain (OpenSpec.upto fieldOwnSpec)) fieldOwnUptoCard

/-- THE SECOND FORM's CARD OF 'reachlaw4.FieldShows'. -/
def fieldShowsUptoCard : Claim7 := { stood := { row := fieldShowsUptoRow, standIns := [], harness := (true, "aef413c184ae60183216212568c126ab2775e6effea86c22d1b42df763f452a5"), looks := false }, kinds := [], alts := [], laidByText := true, laidKinds := [.data, .data, .data, .data, .pinned], laidTests := true, laidLooks := .later }
def FieldShowsUptoCardSaid : Prop := Claim7.holds Tryd.pinned (.plain (OpenSpec.upto fieldShowsSpec)) fieldShowsUptoCard
end Rows
end Go.Proofs.YtaleaicfllcpiaaDoor
