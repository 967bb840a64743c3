/-
  DERIVED. GIVEN WITH THE SEED: THE CARDS: each row of YtomkdgcpmpbfhaaDoorRows.lean that lists a variable, with what it lists TIED to the program's text (the seventh form; the later family's looks); each row that meets fmt, with fmt's text TOLD by the authors' own Lean function (tested against real Go, not proved from fmt's source: count such statements apart). THE CARD IS WHAT COUNTS. Prove the row's statement (the work); the ties are given (YtomkdgcpmpbfhaaDoorTie.lean); close each card by the builder's one call (the guide's Derived/Test/ToyasCard.lean, 'card_holds'). Laid BY PROGRAM, IN A SANDBOX (cutbox-door.mjs). By AI agents, Wed Nov 11 2026. No macro, syntax, notation, axiom, sorry.
-/
import Derived.Test.YtomkdgcpmpbfhaaDoorRows
import GoSem.ClaimSeven
namespace Go.Proofs.YtomkdgcpmpbfhaaDoor
namespace Rows

/-- THE TIED CARD OF 'faultlinelaw54.AbsorbSums'. -/
def absorbSumsCard : Claim7 := { stood := { row := absorbSumsRow, standIns := [], harness := (true, "9ebea0a2ed99528144408a5d919691d3eb41700124a59c8324bfab58d7f0fef7"), looks := false }, kinds := [], alts := [], laidByText := true, laidKinds := [.data, .pinned], laidTests := true, laidLooks := .later }
def AbsorbSumsCardSaid : Prop := Claim7.holds Tryd.pinned (.plain (OpenSpec.ofChange absorbSumsSpec)) absorbSumsCard

/-- THE TIED CARD OF 'faultlinelaw54.AbsorbScales'. -/
def absorbScalesCard : Claim7 := { stood := { row := absorbScalesRow, standIns := [], harness := (true, "9ebea0a2ed99528144408a5d919691d3eb41700124a59c8324bfab58d7f0fef7"), looks := false }, kinds := [], alts := [], laidByText := true, laidKinds := [.data, .pinned], laidTests := true, laidLooks := .later }
def AbsorbScalesCardSaid : Prop := Claim7.holds Tryd.pinned (.plain (OpenSpec.ofChange absorbScalesSpec)) absorbScalesCard

/-- THE SECOND FORM's CARD OF 'faultlinelaw54.AbsorbSums'. -/
def absorbSumsUptoCard : Claim7 := { stood := { row := absorbSumsUptoRow, standIns := [], harness := (true, "9ebea0a2ed99528144408a5d919691d3eb41700124a59c8324bfab58d7f0fef7"), looks := false }, kinds := [], alts := [], laidByText := true, laidKinds := [.data, .pinned], laidTests := true, laidLooks := .later }
def AbsorbSumsUptoCardSaid : Prop := Claim7.holds Tryd.pinned (.plain (OpenSpec.upto absorbSumsSpec)) absorbSumsUptoCard

/-- THE SECOND FORM's CARD OF 'faultlinelaw54.AbsorbScales'. -/
def absorbScalesUptoCard : Claim7 := { stood := { row := absorbScalesUptoRow, standIns := [], harness := (true, "9ebea0a2ed99528144408a5d919691d3eb41700124a59c8324bfab58d7f0fef7"), looks := false }, kinds := [], alts := [], laidByText := true, laidKinds := [.data, .pinned], laidTests := true, laidLooks := .later }
def AbsorbScalesUptoCardSaid : Prop := Claim7.holds Tryd.pinned (.plain (OpenSpec.upto absorbScalesSpec)) absorbScalesUptoCard
end Rows
end Go.Proofs.YtomkdgcpmpbfhaaDoor
