/-
  DERIVED. GIVEN WITH THE SEED: THE CARDS: each row of YtomkdgcpmpbfhaaGreatDoorRows.lean that lists a variable, with what it lists TIED to the program's text (the seventh form; the later family's looks); each row that meets fmt, with fmt's text TOLD by the authors' own Lean function (tested against real Go, not proved from fmt's source: count such statements apart). THE CARD IS WHAT COUNTS. Prove the row's statement (the work); the ties are given (YtomkdgcpmpbfhaaGreatDoorTie.lean); close each card by the builder's one call (the guide's Derived/Test/ToyasCard.lean, 'card_holds'). Laid BY PROGRAM, IN A SANDBOX (cutbox-door.mjs). By AI agents, Wed Nov 11 2026. No macro, syntax, notation, axiom, sorry.
-/
import Derived.Test.YtomkdgcpmpbfhaaGreatDoorRows
import GoSem.ClaimSeven
namespace Go.Proofs.YtomkdgcpmpbfhaaGreatDoor
namespace Rows

/-- THE TIED CARD OF 'faultlinelaw54.AbsorbSolves'. -/
def absorbSolvesCard : Claim7 := { stood := { row := absorbSolvesRow, standIns := [], harness := (true, "15c83b0958f72b9608e324ad067e1bd671653812ff4f394fcfefb0adb57c5190"), looks := true }, kinds := [], alts := [], laidByText := true, laidKinds := [.data, .pinned], laidTests := true, laidLooks := .later }
def AbsorbSolvesCardSaid : Prop := Claim7.holds Tryz.pinned (.plain (OpenSpec.ofChange absorbSolvesSpec)) absorbSolvesCard

/-- THE TIED CARD OF 'faultlinelaw54.AbsorbTells'. -/
def absorbTellsCard : Claim7 := { stood := { row := absorbTellsRow, standIns := [], harness := (true, "15c83b0958f72b9608e324ad067e1bd671653812ff4f394fcfefb0adb57c5190"), looks := true }, kinds := [], alts := [], laidByText := true, laidKinds := [.data, .pinned], laidTests := true, laidLooks := .later }
def AbsorbTellsCardSaid : Prop := Claim7.holds Tryz.pinned (.plain (OpenSpec.ofChange absorbTellsSpec)) absorbTellsCard

/-- THE TIED CARD OF 'faultlinelaw54.AbsorbRight'. -/
def absorbRightCard : Claim7 := { stood := { row := absorbRightRow, standIns := [], harness := (true, "15c83b0958f72b9608e324ad067e1bd671653812ff4f394fcfefb0adb57c5190"), looks := true }, kinds := [], alts := [], laidByText := true, laidKinds := [.data, .pinned], laidTests := true, laidLooks := .later }
def AbsorbRightCardSaid : Prop := Claim7.holds Tryz.pinned (.plain (OpenSpec.ofChange absorbRightSpec)) absorbRightCard

/-- THE TIED CARD OF 'faultlinelaw54.AbsorbSteps'. -/
def absorbStepsCard : Claim7 := { stood := { row := absorbStepsRow, standIns := [], harness := (true, "15c83b0958f72b9608e324ad067e1bd671653812ff4f394fcfefb0adb57c5190"), looks := true }, kinds := [], alts := [], laidByText := true, laidKinds := [.data, .pinned], laidTests := true, laidLooks := .later }
def AbsorbStepsCardSaid : Prop := Claim7.holds Tryz.pinned (.plain (OpenSpec.ofChange absorbStepsSpec)) absorbStepsCard

/-- THE SECOND FORM's CARD OF 'faultlinelaw54.AbsorbSolves'. -/
def absorbSolvesUptoCard : Claim7 := { stood := { row := absorbSolvesUptoRow, standIns := [], harness := (true, "15c83b0958f72b9608e324ad067e1bd671653812ff4f394fcfefb0adb57c5190"), looks := true }, kinds := [], alts := [], laidByText := true, laidKinds := [.data, .pinned], laidTests := true, laidLooks := .later }
def AbsorbSolvesUptoCardSaid : Prop := Claim7.holds Tryz.pinned (.plain (OpenSpec.upto absorbSolvesSpec)) absorbSolvesUptoCard

/-- THE SECOND FORM's CARD OF 'faultlinelaw54.AbsorbTells'. -/
def absorbTellsUptoCard : Claim7 := { stood := { row := absorbTellsUptoRow, standIns := [], harness := (true, "15c83b0958f72b9608e324ad067e1bd671653812ff4f394fcfefb0adb57c5190"), looks := true }, kinds := [], alts := [], laidByText := true, laidKinds := [.data, .pinned], laidTests := true, laidLooks := .later }
def AbsorbTellsUptoCardSaid : Prop := Claim7.holds Tryz.pinned (.plain (OpenSpec.upto absorbTellsSpec)) absorbTellsUptoCard

/-- THE SECOND FORM's CARD OF 'faultlinelaw54.AbsorbRight'. -/
def absorbRightUptoCard : Claim7 := { stood := { row := absorbRightUptoRow, standIns := [], harness := (true, "15c83b0958f72b9608e324ad067e1bd671653812ff4f394fcfefb0adb57c5190"), looks := true }, kinds := [], alts := [], laidByText := true, laidKinds := [.data, .pinned], laidTests := true, laidLooks := .later }
def AbsorbRightUptoCardSaid : Prop := Claim7.holds Tryz.pinned (.plain (OpenSpec.upto absorbRightSpec)) absorbRightUptoCard

/-- THE SECOND FORM's CARD OF 'faultlinelaw54.AbsorbSteps'. -/
def absorbStepsUptoCard : Claim7 := { stood := { row := absorbStepsUptoRow, standIns := [], harness := (true, "15c83b0958f72b9608e324ad067e1bd671653812ff4f394fcfefb0adb57c5190"), looks := true }, kinds := [], alts := [], laidByText := true, laidKinds := [.data, .pinned], laidTests := true, laidLooks := .later }
def AbsorbStepsUptoCardSaid : Prop := Claim7.holds Tryz.pinned (.plain (OpenSpec.upto absorbStepsSpec)) absorbStepsUptoCard
end Rows
end Go.Proofs.YtomkdgcpmpbfhaaGreatDoor
