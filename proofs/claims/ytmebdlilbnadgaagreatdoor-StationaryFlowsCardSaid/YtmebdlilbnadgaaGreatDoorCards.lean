/-
  DERIVED. GIVEN WITH THE SEED: THE CARDS: each row of YtmebdlilbnadgaaGreatDoorRows.lean that lists a variable, with what it lists TIED to the program's text (the seventh form; the later family's looks); each row that meets fmt, with fmt's text TOLD by the authors' own Lean function (tested against real Go, not proved from fmt's source: count such statements apart). THE CARD IS WHAT COUNTS. Prove the row's statement (the work); the ties are given (YtmebdlilbnadgaaGreatDoorTie.lean); close each card by the builder's one call (the guide's Derived/Test/ToyasCard.lean, 'card_holds'). Laid BY PROGRAM, IN A SANDBOX (cutbox-door.mjs). By AI agents, Wed Nov 11 2026. No macro, syntax, notation, axiom, sorry.
-/
import Derived.Test.YtmebdlilbnadgaaGreatDoorRows
import GoSem.ClaimSeven
namespace Go.Proofs.YtmebdlilbnadgaaGreatDoor
namespace Rows

/-- THE TIED CARD OF 'faultlinelaw52.StationaryScales'. -/
def stationaryScalesCard : Claim7 := { stood := { row := stationaryScalesRow, standIns := [], harness := (true, "325b7544570870367f9180763e92216f38c8af43d60b8a74dcd365cdd0d4ab99"), looks := true }, kinds := [], alts := [], laidByText := true, laidKinds := [.data, .pinned], laidTests := true, laidLooks := .later }
def StationaryScalesCardSaid : Prop := Claim7.holds Tryz.pinned (.plain (OpenSpec.ofChange stationaryScalesSpec)) stationaryScalesCard

/-- THE TIED CARD OF 'faultlinelaw52.StationarySolves'. -/
def stationarySolvesCard : Claim7 := { stood := { row := stationarySolvesRow, standIns := [], harness := (true, "325b7544570870367f9180763e92216f38c8af43d60b8a74dcd365cdd0d4ab99"), looks := true }, kinds := [], alts := [], laidByText := true, laidKinds := [.data, .pinned], laidTests := true, laidLooks := .later }
def StationarySolvesCardSaid : Prop := Claim7.holds Tryz.pinned (.plain (OpenSpec.ofChange stationarySolvesSpec)) stationarySolvesCard

/-- THE TIED CARD OF 'faultlinelaw52.StationaryRight'. -/
def stationaryRightCard : Claim7 := { stood := { row := stationaryRightRow, standIns := [], harness := (true, "325b7544570870367f9180763e92216f38c8af43d60b8a74dcd365cdd0d4ab99"), looks := true }, kinds := [], alts := [], laidByText := true, laidKinds := [.data, .pinned], laidTests := true, laidLooks := .later }
def StationaryRightCardSaid : Prop := Claim7.holds Tryz.pinned (.plain (OpenSpec.ofChange stationaryRightSpec)) stationaryRightCard

/-- THE TIED CARD OF 'faultlinelaw52.StationaryFlows'. -/
def stationaryFlowsCard : Claim7 := { stood := { row := stationaryFlowsRow, standIns := [], harness := (true, "325b7544570870367f9180763e92216f38c8af43d60b8a74dcd365cdd0d4ab99"), looks := true }, kinds := [], alts := [], laidByText := true, laidKinds := [.data, .pinned], laidTests := true, laidLooks := .later }
def StationaryFlowsCardSaid : Prop := Claim7.holds Tryz.pinned (.plain (OpenSpec.ofChange stationaryFlowsSpec)) stationaryFlowsCard

/-- THE TIED CARD OF 'faultlinelaw52.StationaryTells'. -/
def stationaryTellsCard : Claim7 := { stood := { row := stationaryTellsRow, standIns := [], harness := (true, "325b7544570870367f9180763e92216f38c8af43d60b8a74dcd365cdd0d4ab99"), looks := true }, kinds := [], alts := [], laidByText := true, laidKinds := [.data, .pinned], laidTests := true, laidLooks := .later }
def StationaryTellsCardSaid : Prop := Claim7.holds Tryz.pinned (.plain (OpenSpec.ofChange stationaryTellsSpec)) stationaryTellsCard

/-- THE TIED CARD OF 'faultlinelaw53.TransientFixed'. -/
def transientFixedCard : Claim7 := { stood := { row := transientFixedRow, standIns := [], harness := (true, "325b7544570870367f9180763e92216f38c8af43d60b8a74dcd365cdd0d4ab99"), looks := true }, kinds := [], alts := [], laidByText := true, laidKinds := [.data, .pinned], laidTests := true, laidLooks := .later }
def TransientFixedCardSaid : Prop := Claim7.holds Tryz.pinned (.plain (OpenSpec.ofChange transientFixedSpec)) transientFixedCard

/-- THE SECOND FORM's CARD OF 'faultlinelaw52.StationaryScales'. -/
def stationaryScalesUptoCard : Claim7 := { stood := { row := stationaryScalesUptoRow, standIns := [], harness := (true, "325b7544570870367f9180763e92216f38c8af43d60b8a74dcd365cdd0d4ab99"), looks := true }, kinds := [], alts := [], laidByText := true, laidKinds := [.data, .pinned], laidTests := true, laidLooks := .later }
def StationaryScalesUptoCardSaid : Prop := Claim7.holds Tryz.pinned (.plain (OpenSpec.upto stationaryScalesSpec)) stationaryScalesUptoCard

/-- THE SECOND FORM's CARD OF 'faultlinelaw52.StationarySolves'. -/
def stationarySolvesUptoCard : Claim7 := { stood := { row := stationarySolvesUptoRow, standIns := [], harness := (true, "325b7544570870367f9180763e92216f38c8af43d60b8a74dcd365cdd0d4ab99"), looks := true }, kinds := [], alts := [], laidByText := true, laidKinds := [.data, .pinned], laidTests := true, laidLooks := .later }
def StationarySolvesUptoCardSaid : Prop := Claim7.holds Tryz.pinned (.plain (OpenSpec.upto stationarySolvesSpec)) stationarySolvesUptoCard

/-- THE SECOND FORM's CARD OF 'faultlinelaw52.StationaryRight'. -/
def stationaryRightUptoCard : Claim7 := { stood := { row := stationaryRightUptoRow, standIns := [], harness := (true, "325b7544570870367f9180763e92216f38c8af43d60b8a74dcd365cdd0d4ab99"), looks := true }, kinds := [], alts := [], laidByText := true, laidKinds := [.data, .pinned], laidTests := true, laidLooks := .later }
def StationaryRightUptoCardSaid : Prop := Claim7.holds Tryz.pinned (.plain (OpenSpec.upto stationaryRightSpec)) stationaryRightUptoCard

/-- THE SECOND FORM's CARD OF 'faultlinelaw52.StationaryFlows'. -/
def stationaryFlowsUptoCard : Claim7 := { stood := { row := stationaryFlowsUptoRow, standIns := [], harness := (true, "325b7544570870367f9180763e92216f38c8af43d60b8a74dcd365cdd0d4ab99"), looks := true }, kinds := [], alts := [], laidByText := true, laidKinds := [.data, .pinned], laidTests := true, laidLooks := .later }
def StationaryFlowsUptoCardSaid : Prop := Claim7.holds Tryz.pinned (.plain (OpenSpec.upto stationaryFlowsSpec)) stationaryFlowsUptoCard

/-- THE SECOND FORM's CARD OF 'faultlinelaw52.StationaryTells'. -/
def stationaryTellsUptoCard : Claim7 := { stood := { row := stationaryTellsUptoRow, standIns := [], harness := (true, "325b7544570870367f9180763e92216f38c8af43d60b8a74dcd365cdd0d4ab99"), looks := true }, kinds := [], alts := [], laidByText := true, laidKinds := [.data, .pinned], laidTests := true, laidLooks := .later }
def StationaryTellsUptoCardSaid : Prop := Claim7.holds Tryz.pinned (.plain (OpenSpec.upto stationaryTellsSpec)) stationaryTellsUptoCard

/-- THE SECOND FORM's CARD OF 'faultlinelaw53.TransientFixed'. -/
def transientFixedUptoCard : Claim7 := { stood := { row := transientFixedUptoRow, standIns := [], harness := (true, "325b7544570870367f9180763e92216f38c8af43d60b8a74dcd365cdd0d4ab99"), looks := true }, kinds := [], alts := [], laidByText := true, laidKinds := [.data, .pinned], laidTests := true, laidLooks := .later }
def TransientFixedUptoCardSaid : Prop := Claim7.holds Tryz.pinned (.plain (OpenSpec.upto transientFixedSpec)) transientFixedUptoCard
end Rows
end Go.Proofs.YtmebdlilbnadgaaGreatDoor
