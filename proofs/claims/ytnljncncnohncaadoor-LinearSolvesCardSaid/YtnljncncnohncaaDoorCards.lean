/-
  DERIVED. GIVEN WITH THE SEED: THE CARDS: each row of YtnljncncnohncaaDoorRows.lean that lists a variable, with what it lists TIED to the program's text (the seventh form; the later family's looks); each row that meets fmt, with fmt's text TOLD by the authors' own Lean function (tested against real Go, not proved from fmt's source: count such statements apart). THE CARD IS WHAT COUNTS. Prove the row's statement (the work); the ties are given (YtnljncncnohncaaDoorTie.lean); close each card by the builder's one call (the guide's Derived/Test/ToyasCard.lean, 'card_holds'). Laid BY PROGRAM, IN A SANDBOX (cutbox-door.mjs). By AI agents, Wed Nov 11 2026. No macro, syntax, notation, axiom, sorry.
-/
import Derived.Test.YtnljncncnohncaaDoorRows
import GoSem.ClaimSeven
namespace Go.Proofs.YtnljncncnohncaaDoor
namespace Rows

/-- THE TIED CARD OF 'faultlinelaw04.LinearSolves'. -/
def linearSolvesCard : Claim7 := { stood := { row := linearSolvesRow, standIns := [], harness := (true, "aabbc1fb27890861138789af91c28daa88bdb507dfc38fd0eaed92047ad81cd2"), looks := true }, kinds := [], alts := [], laidByText := true, laidKinds := [.data, .pinned], laidTests := true, laidLooks := .later }
def LinearSolvesCardSaid : Prop := Claim7.holds Tryd.pinned (.plain (OpenSpec.ofChange linearSolvesSpec)) linearSolvesCard

/-- THE TIED CARD OF 'faultlinelaw04.LinearRows'. -/
def linearRowsCard : Claim7 := { stood := { row := linearRowsRow, standIns := [], harness := (true, "aabbc1fb27890861138789af91c28daa88bdb507dfc38fd0eaed92047ad81cd2"), looks := true }, kinds := [], alts := [], laidByText := true, laidKinds := [.data, .pinned], laidTests := true, laidLooks := .later }
def LinearRowsCardSaid : Prop := Claim7.holds Tryd.pinned (.plain (OpenSpec.ofChange linearRowsSpec)) linearRowsCard

/-- THE TIED CARD OF 'faultlinelaw04.LinearDets'. -/
def linearDetsCard : Claim7 := { stood := { row := linearDetsRow, standIns := [], harness := (true, "aabbc1fb27890861138789af91c28daa88bdb507dfc38fd0eaed92047ad81cd2"), looks := true }, kinds := [], alts := [], laidByText := true, laidKinds := [.data, .pinned], laidTests := true, laidLooks := .later }
def LinearDetsCardSaid : Prop := Claim7.holds Tryd.pinned (.plain (OpenSpec.ofChange linearDetsSpec)) linearDetsCard

/-- THE TIED CARD OF 'faultlinelaw04.LinearReduces'. -/
def linearReducesCard : Claim7 := { stood := { row := linearReducesRow, standIns := [], harness := (true, "aabbc1fb27890861138789af91c28daa88bdb507dfc38fd0eaed92047ad81cd2"), looks := true }, kinds := [], alts := [], laidByText := true, laidKinds := [.data, .pinned], laidTests := true, laidLooks := .later }
def LinearReducesCardSaid : Prop := Claim7.holds Tryd.pinned (.plain (OpenSpec.ofChange linearReducesSpec)) linearReducesCard

/-- THE TIED CARD OF 'faultlinelaw04.LinearMaps'. -/
def linearMapsCard : Claim7 := { stood := { row := linearMapsRow, standIns := [], harness := (true, "aabbc1fb27890861138789af91c28daa88bdb507dfc38fd0eaed92047ad81cd2"), looks := true }, kinds := [], alts := [], laidByText := true, laidKinds := [.data, .pinned], laidTests := true, laidLooks := .later }
def LinearMapsCardSaid : Prop := Claim7.holds Tryd.pinned (.plain (OpenSpec.ofChange linearMapsSpec)) linearMapsCard

/-- THE TIED CARD OF 'faultlinelaw04.LinearKernel'. -/
def linearKernelCard : Claim7 := { stood := { row := linearKernelRow, standIns := [], harness := (true, "aabbc1fb27890861138789af91c28daa88bdb507dfc38fd0eaed92047ad81cd2"), looks := true }, kinds := [], alts := [], laidByText := true, laidKinds := [.data, .pinned], laidTests := true, laidLooks := .later }
def LinearKernelCardSaid : Prop := Claim7.holds Tryd.pinned (.plain (OpenSpec.ofChange linearKernelSpec)) linearKernelCard

/-- THE TIED CARD OF 'faultlinelaw04.LinearSolution'. -/
def linearSolutionCard : Claim7 := { stood := { row := linearSolutionRow, standIns := [], harness := (true, "aabbc1fb27890861138789af91c28daa88bdb507dfc38fd0eaed92047ad81cd2"), looks := true }, kinds := [], alts := [], laidByText := true, laidKinds := [.data, .pinned], laidTests := true, laidLooks := .later }
def LinearSolutionCardSaid : Prop := Claim7.holds Tryd.pinned (.plain (OpenSpec.ofChange linearSolutionSpec)) linearSolutionCard

/-- THE TIED CARD OF 'faultlinelaw04.LinearChecks'. -/
def linearChecksCard : Claim7 := { stood := { row := linearChecksRow, standIns := [], harness := (true, "aabbc1fb27890861138789af91c28daa88bdb507dfc38fd0eaed92047ad81cd2"), looks := true }, kinds := [], alts := [], laidByText := true, laidKinds := [.data, .pinned], laidTests := true, laidLooks := .later }
def LinearChecksCardSaid : Prop := Claim7.holds Tryd.pinned (.plain (OpenSpec.ofChange linearChecksSpec)) linearChecksCard

/-- THE SECOND FORM's CARD OF 'faultlinelaw04.LinearSolves'. -/
def linearSolvesUptoCard : Claim7 := { stood := { row := linearSolvesUptoRow, standIns := [], harness := (true, "aabbc1fb27890861138789af91c28daa88bdb507dfc38fd0eaed92047ad81cd2"), looks := true }, kinds := [], alts := [], laidByText := true, laidKinds := [.data, .pinned], laidTests := true, laidLooks := .later }
def LinearSolvesUptoCardSaid : Prop := Claim7.holds Tryd.pinned (.plain (OpenSpec.upto linearSolvesSpec)) linearSolvesUptoCard

/-- THE SECOND FORM's CARD OF 'faultlinelaw04.LinearRows'. -/
def linearRowsUptoCard : Claim7 := { stood := { row := linearRowsUptoRow, standIns := [], harness := (true, "aabbc1fb27890861138789af91c28daa88bdb507dfc38fd0eaed92047ad81cd2"), looks := true }, kinds := [], alts := [], laidByText := true, laidKinds := [.data, .pinned], laidTests := true, laidLooks := .later }
def LinearRowsUptoCardSaid : Prop := Claim7.holds Tryd.pinned (.plain (OpenSpec.upto linearRowsSpec)) linearRowsUptoCard

/-- THE SECOND FORM's CARD OF 'faultlinelaw04.LinearDets'. -/
def linearDetsUptoCard : Claim7 := { stood := { row := linearDetsUptoRow, standIns := [], harness := (true, "aabbc1fb27890861138789af91c28daa88bdb507dfc38fd0eaed92047ad81cd2"), looks := true }, kinds := [], alts := [], laidByText := true, laidKinds := [.data, .pinned], laidTests := true, laidLooks := .later }
def LinearDetsUptoCardSaid : Prop := Claim7.holds Tryd.pinned (.plain (OpenSpec.upto linearDetsSpec)) linearDetsUptoCard

/-- THE SECOND FORM's CARD OF 'faultlinelaw04.LinearReduces'. -/
def linearReducesUptoCard : Claim7 := { stood := { row := linearReducesUptoRow, standIns := [], harness := (true, "aabbc1fb27890861138789af91c28daa88bdb507dfc38fd0eaed92047ad81cd2"), looks := true }, kinds := [], alts := [], laidByText := true, laidKinds := [.data, .pinned], laidTests := true, laidLooks := .later }
def LinearReducesUptoCardSaid : Prop := Claim7.holds Tryd.pinned (.plain (OpenSpec.upto linearReducesSpec)) linearReducesUptoCard

/-- THE SECOND FORM's CARD OF 'faultlinelaw04.LinearMaps'. -/
def linearMapsUptoCard : Claim7 := { stood := { row := linearMapsUptoRow, standIns := [], harness := (true, "aabbc1fb27890861138789af91c28daa88bdb507dfc38fd0eaed92047ad81cd2"), looks := true }, kinds := [], alts := [], laidByText := true, laidKinds := [.data, .pinned], laidTests := true, laidLooks := .later }
def LinearMapsUptoCardSaid : Prop := Claim7.holds Tryd.pinned (.plain (OpenSpec.upto linearMapsSpec)) linearMapsUptoCard

/-- THE SECOND FORM's CARD OF 'faultlinelaw04.LinearKernel'. -/
def linearKernelUptoCard : Claim7 := { stood := { row := linearKernelUptoRow, standIns := [], harness := (true, "aabbc1fb27890861138789af91c28daa88bdb507dfc38fd0eaed92047ad81cd2"), looks := true }, kinds := [], alts := [], laidByText := true, laidKinds := [.data, .pinned], laidTests := true, laidLooks := .later }
def LinearKernelUptoCardSaid : Prop := Claim7.holds Tryd.pinned (.plain (OpenSpec.upto linearKernelSpec)) linearKernelUptoCard

/-- THE SECOND FORM's CARD OF 'faultlinelaw04.LinearSolution'. -/
def linearSolutionUptoCard : Claim7 := { stood := { row := linearSolutionUptoRow, standIns := [], harness := (true, "aabbc1fb27890861138789af91c28daa88bdb507dfc38fd0eaed92047ad81cd2"), looks := true }, kinds := [], alts := [], laidByText := true, laidKinds := [.data, .pinned], laidTests := true, laidLooks := .later }
def LinearSolutionUptoCardSaid : Prop := Claim7.holds Tryd.pinned (.plain (OpenSpec.upto linearSolutionSpec)) linearSolutionUptoCard

/-- THE SECOND FORM's CARD OF 'faultlinelaw04.LinearChecks'. -/
def linearChecksUptoCard : Claim7 := { stood := { row := linearChecksUptoRow, standIns := [], harness := (true, "aabbc1fb27890861138789af91c28daa88bdb507dfc38fd0eaed92047ad81cd2"), looks := true }, kinds := [], alts := [], laidByText := true, laidKinds := [.data, .pinned], laidTests := true, laidLooks := .later }
def LinearChecksUptoCardSaid : Prop := Claim7.holds Tryd.pinned (.plain (OpenSpec.upto linearChecksSpec)) linearChecksUptoCard
end Rows
end Go.Proofs.YtnljncncnohncaaDoor
