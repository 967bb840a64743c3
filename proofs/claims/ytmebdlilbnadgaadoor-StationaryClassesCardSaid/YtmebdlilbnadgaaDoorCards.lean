/-
  DERIVED. GIVEN WITH THE SEED: THE CARDS: each row of YtmebdlilbnadgaaDoorRows.lean that lists a variable, with what it lists TIED to the program's text (the seventh form; the later family's looks); each row that meets fmt, with fmt's text TOLD by the authors' own Lean function (tested against real Go, not proved from fmt's source: count such statements apart). THE CARD IS WHAT COUNTS. Prove the row's statement (the work); the ties are given (YtmebdlilbnadgaaDoorTie.lean); close each card by the builder's one call (the guide's Derived/Test/ToyasCard.lean, 'card_holds'). Laid BY PROGRAM, IN A SANDBOX (cutbox-door.mjs). By AI agents, Wed Nov 11 2026. No macro, syntax, notation, axiom, sorry.
-/
import Derived.Test.YtmebdlilbnadgaaDoorRows
import GoSem.ClaimSeven
namespace Go.Proofs.YtmebdlilbnadgaaDoor
namespace Rows

/-- THE TIED CARD OF 'faultlinelaw52.StationaryClasses'. -/
def stationaryClassesCard : Claim7 := { stood := { row := stationaryClassesRow, standIns := [], harness := (true, "700e26aafb457384d1b43504433b1d9d135b62bd98b1272f90268db6c46a2165"), looks := true }, kinds := [], alts := [], laidByText := true, laidKinds := [.data, .pinned], laidTests := true, laidLooks := .later }
def StationaryClassesCardSaid : Prop := Claim7.holds Tryd.pinned (.plain (OpenSpec.ofChange stationaryClassesSpec)) stationaryClassesCard

/-- THE SECOND FORM's CARD OF 'faultlinelaw52.StationaryClasses'. -/
def stationaryClassesUptoCard : Claim7 := { stood := { row := stationaryClassesUptoRow, standIns := [], harness := (true, "700e26aafb457384d1b43504433b1d9d135b62bd98b1272f90268db6c46a2165"), looks := true }, kinds := [], alts := [], laidByText := true, laidKinds := [.data, .pinned], laidTests := true, laidLooks := .later }
def StationaryClassesUptoCardSaid : Prop := Claim7.holds Tryd.pinned (.plain (OpenSpec.upto stationaryClassesSpec)) stationaryClassesUptoCard
end Rows
end Go.Proofs.YtmebdlilbnadgaaDoor
