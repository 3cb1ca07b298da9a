/-
  DERIVED. GIVEN WITH THE SEED: THE CARDS: each row of YtmcijdpbjhcimaaDoorRows.lean that lists a variable, with what it lists TIED to the program's text (the seventh form; the later family's looks); each row that meets fmt, with fmt's text TOLD by the authors' own Lean function (tested against real Go, not proved from fmt's source: count such statements apart). THE CARD IS WHAT COUNTS. Prove the row's statement (the work); the ties are given (YtmcijdpbjhcimaaDoorTie.lean); close each card by the builder's one call (the guide's Derived/Test/ToyasCard.lean, 'card_holds'). Laid BY PROGRAM, IN A SANDBOX (cutbox-door.mjs). By AI agents, Wed Nov 11 2026. No macro, syntax, notation, axiom, sorry.
-/
import Derived.Test.YtmcijdpbjhcimaaDoorRows
import GoSem.ClaimSeven
namespace Go.Proofs.YtmcijdpbjhcimaaDoor
namespace Rows

/-- THE TIED CARD OF 'reachlaw17.RunRenders'. -/
def runRendersCard : Claim7 := { stood := { row := runRendersRow, standIns := [], harness := (true, "1e57524b083e604faf0d8d5168a7217c6ba1a8e5b665a076340558c12f8d56dc"), looks := false }, kinds := [], alts := [], laidByText := true, laidKinds := [.data, .data, .data, .data], laidTests := true, laidLooks := .later }
def RunRendersCardSaid : Prop := Claim7.holds Tryd.pinned (.plain (OpenSpec.ofChange runRendersSpec)) runRendersCard

/-- THE SECOND FORM's CARD OF 'reachlaw17.RunRenders'. -/
def runRendersUptoCard : Claim7 := { stood := { row := runRendersUptoRow, standIns := [], harness := (true, "1e57524b083e604faf0d8d5168a7217c6ba1a8e5b665a076340558c12f8d56dc"), looks := false }, kinds := [], alts := [], laidByText := true, laidKinds := [.data, .data, .data, .data], laidTests := true, laidLooks := .later }
def RunRendersUptoCardSaid : Prop := Claim7.holds Tryd.pinned (.plain (OpenSpec.upto runRendersSpec)) runRendersUptoCard
end Rows
end Go.Proofs.YtmcijdpbjhcimaaDoor
