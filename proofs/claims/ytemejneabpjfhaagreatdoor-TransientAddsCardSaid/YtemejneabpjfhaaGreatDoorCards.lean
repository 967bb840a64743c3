/-
  DERIVED. GIVEN WITH THE SEED: THE CARDS: each row of YtemejneabpjfhaaGreatDoorRows.lean that lists a variable, with what it lists TIED to the program's text (the seventh form; the later family's looks); each row that meets fmt, with fmt's text TOLD by the authors' own Lean function (tested against real Go, not proved from fmt's source: count such statements apart). THE CARD IS WHAT COUNTS. Prove the row's statement (the work); the ties are given (YtemejneabpjfhaaGreatDoorTie.lean); close each card by the builder's one call (the guide's Derived/Test/ToyasCard.lean, 'card_holds'). Laid BY PROGRAM, IN A SANDBOX (cutbox-door.mjs). By AI agents, Wed Nov 11 2026. No macro, syntax, notation, axiom, sorry.
-/
import Derived.Test.YtemejneabpjfhaaGreatDoorRows
import GoSem.ClaimSeven
namespace Go.Proofs.YtemejneabpjfhaaGreatDoor
namespace Rows

/-- THE TIED CARD OF 'faultlinelaw53.TransientRuns'. -/
def transientRunsCard : Claim7 := { stood := { row := transientRunsRow, standIns := [], harness := (true, "2a5e73140df49b446952d85b1154e1cae5465b4a5fd06c764be5a59a1199f848"), looks := true }, kinds := [], alts := [], laidByText := true, laidKinds := [.data, .pinned], laidTests := true, laidLooks := .later }
def TransientRunsCardSaid : Prop := Claim7.holds Tryz.pinned (.plain (OpenSpec.ofChange transientRunsSpec)) transientRunsCard

/-- THE TIED CARD OF 'faultlinelaw53.TransientFirst'. -/
def transientFirstCard : Claim7 := { stood := { row := transientFirstRow, standIns := [], harness := (true, "2a5e73140df49b446952d85b1154e1cae5465b4a5fd06c764be5a59a1199f848"), looks := true }, kinds := [], alts := [], laidByText := true, laidKinds := [.data, .pinned], laidTests := true, laidLooks := .later }
def TransientFirstCardSaid : Prop := Claim7.holds Tryz.pinned (.plain (OpenSpec.ofChange transientFirstSpec)) transientFirstCard

/-- THE TIED CARD OF 'faultlinelaw53.TransientSteps'. -/
def transientStepsCard : Claim7 := { stood := { row := transientStepsRow, standIns := [], harness := (true, "2a5e73140df49b446952d85b1154e1cae5465b4a5fd06c764be5a59a1199f848"), looks := true }, kinds := [], alts := [], laidByText := true, laidKinds := [.data, .pinned], laidTests := true, laidLooks := .later }
def TransientStepsCardSaid : Prop := Claim7.holds Tryz.pinned (.plain (OpenSpec.ofChange transientStepsSpec)) transientStepsCard

/-- THE TIED CARD OF 'faultlinelaw53.TransientSums'. -/
def transientSumsCard : Claim7 := { stood := { row := transientSumsRow, standIns := [], harness := (true, "2a5e73140df49b446952d85b1154e1cae5465b4a5fd06c764be5a59a1199f848"), looks := true }, kinds := [], alts := [], laidByText := true, laidKinds := [.data, .pinned], laidTests := true, laidLooks := .later }
def TransientSumsCardSaid : Prop := Claim7.holds Tryz.pinned (.plain (OpenSpec.ofChange transientSumsSpec)) transientSumsCard

/-- THE TIED CARD OF 'faultlinelaw53.TransientJoins'. -/
def transientJoinsCard : Claim7 := { stood := { row := transientJoinsRow, standIns := [], harness := (true, "2a5e73140df49b446952d85b1154e1cae5465b4a5fd06c764be5a59a1199f848"), looks := true }, kinds := [], alts := [], laidByText := true, laidKinds := [.data, .pinned], laidTests := true, laidLooks := .later }
def TransientJoinsCardSaid : Prop := Claim7.holds Tryz.pinned (.plain (OpenSpec.ofChange transientJoinsSpec)) transientJoinsCard

/-- THE TIED CARD OF 'faultlinelaw53.TransientAdds'. -/
def transientAddsCard : Claim7 := { stood := { row := transientAddsRow, standIns := [], harness := (true, "2a5e73140df49b446952d85b1154e1cae5465b4a5fd06c764be5a59a1199f848"), looks := true }, kinds := [], alts := [], laidByText := true, laidKinds := [.data, .pinned], laidTests := true, laidLooks := .later }
def TransientAddsCardSaid : Prop := Claim7.holds Tryz.pinned (.plain (OpenSpec.ofChange transientAddsSpec)) transientAddsCard

/-- THE SECOND FORM's CARD OF 'faultlinelaw53.TransientRuns'. -/
def transientRunsUptoCard : Claim7 := { stood := { row := transientRunsUptoRow, standIns := [], harness := (true, "2a5e73140df49b446952d85b1154e1cae5465b4a5fd06c764be5a59a1199f848"), looks := true }, kinds := [], alts := [], laidByText := true, laidKinds := [.data, .pinned], laidTests := true, laidLooks := .later }
def TransientRunsUptoCardSaid : Prop := Claim7.holds Tryz.pinned (.plain (OpenSpec.upto transientRunsSpec)) transientRunsUptoCard

/-- THE SECOND FORM's CARD OF 'faultlinelaw53.TransientFirst'. -/
def transientFirstUptoCard : Claim7 := { stood := { row := transientFirstUptoRow, standIns := [], harness := (true, "2a5e73140df49b446952d85b1154e1cae5465b4a5fd06c764be5a59a1199f848"), looks := true }, kinds := [], alts := [], laidByText := true, laidKinds := [.data, .pinned], laidTests := true, laidLooks := .later }
def TransientFirstUptoCardSaid : Prop := Claim7.holds Tryz.pinned (.plain (OpenSpec.upto transientFirstSpec)) transientFirstUptoCard

/-- THE SECOND FORM's CARD OF 'faultlinelaw53.TransientSteps'. -/
def transientStepsUptoCard : Claim7 := { stood := { row := transientStepsUptoRow, standIns := [], harness := (true, "2a5e73140df49b446952d85b1154e1cae5465b4a5fd06c764be5a59a1199f848"), looks := true }, kinds := [], alts := [], laidByText := true, laidKinds := [.data, .pinned], laidTests := true, laidLooks := .later }
def TransientStepsUptoCardSaid : Prop := Claim7.holds Tryz.pinned (.plain (OpenSpec.upto transientStepsSpec)) transientStepsUptoCard

/-- THE SECOND FORM's CARD OF 'faultlinelaw53.TransientSums'. -/
def transientSumsUptoCard : Claim7 := { stood := { row := transientSumsUptoRow, standIns := [], harness := (true, "2a5e73140df49b446952d85b1154e1cae5465b4a5fd06c764be5a59a1199f848"), looks := true }, kinds := [], alts := [], laidByText := true, laidKinds := [.data, .pinned], laidTests := true, laidLooks := .later }
def TransientSumsUptoCardSaid : Prop := Claim7.holds Tryz.pinned (.plain (OpenSpec.upto transientSumsSpec)) transientSumsUptoCard

/-- THE SECOND FORM's CARD OF 'faultlinelaw53.TransientJoins'. -/
def transientJoinsUptoCard : Claim7 := { stood := { row := transientJoinsUptoRow, standIns := [], harness := (true, "2a5e73140df49b446952d85b1154e1cae5465b4a5fd06c764be5a59a1199f848"), looks := true }, kinds := [], alts := [], laidByText := true, laidKinds := [.data, .pinned], laidTests := true, laidLooks := .later }
def TransientJoinsUptoCardSaid : Prop := Claim7.holds Tryz.pinned (.plain (OpenSpec.upto transientJoinsSpec)) transientJoinsUptoCard

/-- THE SECOND FORM's CARD OF 'faultlinelaw53.TransientAdds'. -/
def transientAddsUptoCard : Claim7 := { stood := { row := transientAddsUptoRow, standIns := [], harness := (true, "2a5e73140df49b446952d85b1154e1cae5465b4a5fd06c764be5a59a1199f848"), looks := true }, kinds := [], alts := [], laidByText := true, laidKinds := [.data, .pinned], laidTests := true, laidLooks := .later }
def TransientAddsUptoCardSaid : Prop := Claim7.holds Tryz.pinned (.plain (OpenSpec.upto transientAddsSpec)) transientAddsUptoCard
end Rows
end Go.Proofs.YtemejneabpjfhaaGreatDoor
