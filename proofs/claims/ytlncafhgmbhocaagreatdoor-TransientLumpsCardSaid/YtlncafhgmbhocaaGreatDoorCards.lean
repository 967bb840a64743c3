/-
  DERIVED. GIVEN WITH THE SEED: THE CARDS: each row of YtlncafhgmbhocaaGreatDoorRows.lean that lists a variable, with what it lists TIED to the program's text (the seventh form; the later family's looks); each row that meets fmt, with fmt's text TOLD by the authors' own Lean function (tested against real Go, not proved from fmt's source: count such statements apart). THE CARD IS WHAT COUNTS. Prove the row's statement (the work); the ties are given (YtlncafhgmbhocaaGreatDoorTie.lean); close each card by the builder's one call (the guide's Derived/Test/ToyasCard.lean, 'card_holds'). Laid BY PROGRAM, IN A SANDBOX (cutbox-door.mjs). By AI agents, Wed Nov 11 2026. No macro, syntax, notation, axiom, sorry.
-/
import Derived.Test.YtlncafhgmbhocaaGreatDoorRows
import GoSem.ClaimSeven
namespace Go.Proofs.YtlncafhgmbhocaaGreatDoor
namespace Rows

/-- THE TIED CARD OF 'faultlinelaw51.LumpQuotients'. -/
def lumpQuotientsCard : Claim7 := { stood := { row := lumpQuotientsRow, standIns := [], harness := (true, "99e078deb5c6d4eabb71642fe2e0f722e78fce79e695489bbeb9fcb29af64f46"), looks := true }, kinds := [], alts := [], laidByText := true, laidKinds := [.data, .pinned], laidTests := true, laidLooks := .later }
def LumpQuotientsCardSaid : Prop := Claim7.holds Tryz.pinned (.plain (OpenSpec.ofChange lumpQuotientsSpec)) lumpQuotientsCard

/-- THE TIED CARD OF 'faultlinelaw51.LumpPair'. -/
def lumpPairCard : Claim7 := { stood := { row := lumpPairRow, standIns := [], harness := (true, "99e078deb5c6d4eabb71642fe2e0f722e78fce79e695489bbeb9fcb29af64f46"), looks := true }, kinds := [], alts := [], laidByText := true, laidKinds := [.data, .pinned], laidTests := true, laidLooks := .later }
def LumpPairCardSaid : Prop := Claim7.holds Tryz.pinned (.plain (OpenSpec.ofChange lumpPairSpec)) lumpPairCard

/-- THE TIED CARD OF 'faultlinelaw51.LumpEnds'. -/
def lumpEndsCard : Claim7 := { stood := { row := lumpEndsRow, standIns := [], harness := (true, "99e078deb5c6d4eabb71642fe2e0f722e78fce79e695489bbeb9fcb29af64f46"), looks := true }, kinds := [], alts := [], laidByText := true, laidKinds := [.data, .pinned], laidTests := true, laidLooks := .later }
def LumpEndsCardSaid : Prop := Claim7.holds Tryz.pinned (.plain (OpenSpec.ofChange lumpEndsSpec)) lumpEndsCard

/-- THE TIED CARD OF 'faultlinelaw51.LumpComputes'. -/
def lumpComputesCard : Claim7 := { stood := { row := lumpComputesRow, standIns := [], harness := (true, "99e078deb5c6d4eabb71642fe2e0f722e78fce79e695489bbeb9fcb29af64f46"), looks := true }, kinds := [], alts := [], laidByText := true, laidKinds := [.data, .pinned], laidTests := true, laidLooks := .later }
def LumpComputesCardSaid : Prop := Claim7.holds Tryz.pinned (.plain (OpenSpec.ofChange lumpComputesSpec)) lumpComputesCard

/-- THE TIED CARD OF 'faultlinelaw51.LumpCoarsest'. -/
def lumpCoarsestCard : Claim7 := { stood := { row := lumpCoarsestRow, standIns := [], harness := (true, "99e078deb5c6d4eabb71642fe2e0f722e78fce79e695489bbeb9fcb29af64f46"), looks := true }, kinds := [], alts := [], laidByText := true, laidKinds := [.data, .pinned], laidTests := true, laidLooks := .later }
def LumpCoarsestCardSaid : Prop := Claim7.holds Tryz.pinned (.plain (OpenSpec.ofChange lumpCoarsestSpec)) lumpCoarsestCard

/-- THE TIED CARD OF 'faultlinelaw51.LumpChains'. -/
def lumpChainsCard : Claim7 := { stood := { row := lumpChainsRow, standIns := [], harness := (true, "99e078deb5c6d4eabb71642fe2e0f722e78fce79e695489bbeb9fcb29af64f46"), looks := true }, kinds := [], alts := [], laidByText := true, laidKinds := [.data, .pinned], laidTests := true, laidLooks := .later }
def LumpChainsCardSaid : Prop := Claim7.holds Tryz.pinned (.plain (OpenSpec.ofChange lumpChainsSpec)) lumpChainsCard

/-- THE TIED CARD OF 'faultlinelaw53.TransientLumps'. -/
def transientLumpsCard : Claim7 := { stood := { row := transientLumpsRow, standIns := [], harness := (true, "99e078deb5c6d4eabb71642fe2e0f722e78fce79e695489bbeb9fcb29af64f46"), looks := true }, kinds := [], alts := [], laidByText := true, laidKinds := [.data, .pinned], laidTests := true, laidLooks := .later }
def TransientLumpsCardSaid : Prop := Claim7.holds Tryz.pinned (.plain (OpenSpec.ofChange transientLumpsSpec)) transientLumpsCard

/-- THE SECOND FORM's CARD OF 'faultlinelaw51.LumpQuotients'. -/
def lumpQuotientsUptoCard : Claim7 := { stood := { row := lumpQuotientsUptoRow, standIns := [], harness := (true, "99e078deb5c6d4eabb71642fe2e0f722e78fce79e695489bbeb9fcb29af64f46"), looks := true }, kinds := [], alts := [], laidByText := true, laidKinds := [.data, .pinned], laidTests := true, laidLooks := .later }
def LumpQuotientsUptoCardSaid : Prop := Claim7.holds Tryz.pinned (.plain (OpenSpec.upto lumpQuotientsSpec)) lumpQuotientsUptoCard

/-- THE SECOND FORM's CARD OF 'faultlinelaw51.LumpPair'. -/
def lumpPairUptoCard : Claim7 := { stood := { row := lumpPairUptoRow, standIns := [], harness := (true, "99e078deb5c6d4eabb71642fe2e0f722e78fce79e695489bbeb9fcb29af64f46"), looks := true }, kinds := [], alts := [], laidByText := true, laidKinds := [.data, .pinned], laidTests := true, laidLooks := .later }
def LumpPairUptoCardSaid : Prop := Claim7.holds Tryz.pinned (.plain (OpenSpec.upto lumpPairSpec)) lumpPairUptoCard

/-- THE SECOND FORM's CARD OF 'faultlinelaw51.LumpEnds'. -/
def lumpEndsUptoCard : Claim7 := { stood := { row := lumpEndsUptoRow, standIns := [], harness := (true, "99e078deb5c6d4eabb71642fe2e0f722e78fce79e695489bbeb9fcb29af64f46"), looks := true }, kinds := [], alts := [], laidByText := true, laidKinds := [.data, .pinned], laidTests := true, laidLooks := .later }
def LumpEndsUptoCardSaid : Prop := Claim7.holds Tryz.pinned (.plain (OpenSpec.upto lumpEndsSpec)) lumpEndsUptoCard

/-- THE SECOND FORM's CARD OF 'faultlinelaw51.LumpComputes'. -/
def lumpComputesUptoCard : Claim7 := { stood := { row := lumpComputesUptoRow, standIns := [], harness := (true, "99e078deb5c6d4eabb71642fe2e0f722e78fce79e695489bbeb9fcb29af64f46"), looks := true }, kinds := [], alts := [], laidByText := true, laidKinds := [.data, .pinned], laidTests := true, laidLooks := .later }
def LumpComputesUptoCardSaid : Prop := Claim7.holds Tryz.pinned (.plain (OpenSpec.upto lumpComputesSpec)) lumpComputesUptoCard

/-- THE SECOND FORM's CARD OF 'faultlinelaw51.LumpCoarsest'. -/
def lumpCoarsestUptoCard : Claim7 := { stood := { row := lumpCoarsestUptoRow, standIns := [], harness := (true, "99e078deb5c6d4eabb71642fe2e0f722e78fce79e695489bbeb9fcb29af64f46"), looks := true }, kinds := [], alts := [], laidByText := true, laidKinds := [.data, .pinned], laidTests := true, laidLooks := .later }
def LumpCoarsestUptoCardSaid : Prop := Claim7.holds Tryz.pinned (.plain (OpenSpec.upto lumpCoarsestSpec)) lumpCoarsestUptoCard

/-- THE SECOND FORM's CARD OF 'faultlinelaw51.LumpChains'. -/
def lumpChainsUptoCard : Claim7 := { stood := { row := lumpChainsUptoRow, standIns := [], harness := (true, "99e078deb5c6d4eabb71642fe2e0f722e78fce79e695489bbeb9fcb29af64f46"), looks := true }, kinds := [], alts := [], laidByText := true, laidKinds := [.data, .pinned], laidTests := true, laidLooks := .later }
def LumpChainsUptoCardSaid : Prop := Claim7.holds Tryz.pinned (.plain (OpenSpec.upto lumpChainsSpec)) lumpChainsUptoCard

/-- THE SECOND FORM's CARD OF 'faultlinelaw53.TransientLumps'. -/
def transientLumpsUptoCard : Claim7 := { stood := { row := transientLumpsUptoRow, standIns := [], harness := (true, "99e078deb5c6d4eabb71642fe2e0f722e78fce79e695489bbeb9fcb29af64f46"), looks := true }, kinds := [], alts := [], laidByText := true, laidKinds := [.data, .pinned], laidTests := true, laidLooks := .later }
def TransientLumpsUptoCardSaid : Prop := Claim7.holds Tryz.pinned (.plain (OpenSpec.upto transientLumpsSpec)) transientLumpsUptoCard
end Rows
end Go.Proofs.YtlncafhgmbhocaaGreatDoor
