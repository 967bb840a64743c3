/-
  DERIVED. GIVEN WITH THE SEED: THE CARDS: each row of YtoiopnmphbnjaaaGreatDoorRows.lean that lists a variable, with what it lists TIED to the program's text (the seventh form; the later family's looks); each row that meets fmt, with fmt's text TOLD by the authors' own Lean function (tested against real Go, not proved from fmt's source: count such statements apart). THE CARD IS WHAT COUNTS. Prove the row's statement (the work); the ties are given (YtoiopnmphbnjaaaGreatDoorTie.lean); close each card by the builder's one call (the guide's Derived/Test/ToyasCard.lean, 'card_holds'). Laid BY PROGRAM, IN A SANDBOX (cutbox-door.mjs). By AI agents, Wed Nov 11 2026. No macro, syntax, notation, axiom, sorry.
-/
import Derived.Test.YtoiopnmphbnjaaaGreatDoorRows
import GoSem.ClaimSeven
namespace Go.Proofs.YtoiopnmphbnjaaaGreatDoor
namespace Rows

/-- THE TIED CARD OF 'faultlinelaw49.ChainMakes'. -/
def chainMakesCard : Claim7 := { stood := { row := chainMakesRow, standIns := [], harness := (true, "5ffd08722884ab5c0ff77a84f82cc7b608f016e52e133aa4c3479a06622200b4"), looks := true }, kinds := [], alts := [], laidByText := true, laidKinds := [.data, .data, .data], laidTests := true, laidLooks := .later }
def ChainMakesCardSaid : Prop := Claim7.holds Tryz.pinned (.plain (OpenSpec.ofChange chainMakesSpec)) chainMakesCard

/-- THE TIED CARD OF 'faultlinelaw49.ChainReaches'. -/
def chainReachesCard : Claim7 := { stood := { row := chainReachesRow, standIns := [], harness := (true, "5ffd08722884ab5c0ff77a84f82cc7b608f016e52e133aa4c3479a06622200b4"), looks := true }, kinds := [], alts := [], laidByText := true, laidKinds := [.data, .data, .data], laidTests := true, laidLooks := .later }
def ChainReachesCardSaid : Prop := Claim7.holds Tryz.pinned (.plain (OpenSpec.ofChange chainReachesSpec)) chainReachesCard

/-- THE TIED CARD OF 'faultlinelaw49.ChainFollows'. -/
def chainFollowsCard : Claim7 := { stood := { row := chainFollowsRow, standIns := [], harness := (true, "5ffd08722884ab5c0ff77a84f82cc7b608f016e52e133aa4c3479a06622200b4"), looks := true }, kinds := [], alts := [], laidByText := true, laidKinds := [.data, .data, .data], laidTests := true, laidLooks := .later }
def ChainFollowsCardSaid : Prop := Claim7.holds Tryz.pinned (.plain (OpenSpec.ofChange chainFollowsSpec)) chainFollowsCard

/-- THE TIED CARD OF 'faultlinelaw49.ChainSums'. -/
def chainSumsCard : Claim7 := { stood := { row := chainSumsRow, standIns := [], harness := (true, "5ffd08722884ab5c0ff77a84f82cc7b608f016e52e133aa4c3479a06622200b4"), looks := true }, kinds := [], alts := [], laidByText := true, laidKinds := [.data, .data, .data], laidTests := true, laidLooks := .later }
def ChainSumsCardSaid : Prop := Claim7.holds Tryz.pinned (.plain (OpenSpec.ofChange chainSumsSpec)) chainSumsCard

/-- THE TIED CARD OF 'faultlinelaw49.ChainChecks'. -/
def chainChecksCard : Claim7 := { stood := { row := chainChecksRow, standIns := [], harness := (true, "5ffd08722884ab5c0ff77a84f82cc7b608f016e52e133aa4c3479a06622200b4"), looks := true }, kinds := [], alts := [], laidByText := true, laidKinds := [.data, .data, .data], laidTests := true, laidLooks := .later }
def ChainChecksCardSaid : Prop := Claim7.holds Tryz.pinned (.plain (OpenSpec.ofChange chainChecksSpec)) chainChecksCard

/-- THE SECOND FORM's CARD OF 'faultlinelaw49.ChainMakes'. -/
def chainMakesUptoCard : Claim7 := { stood := { row := chainMakesUptoRow, standIns := [], harness := (true, "5ffd08722884ab5c0ff77a84f82cc7b608f016e52e133aa4c3479a06622200b4"), looks := true }, kinds := [], alts := [], laidByText := true, laidKinds := [.data, .data, .data], laidTests := true, laidLooks := .later }
def ChainMakesUptoCardSaid : Prop := Claim7.holds Tryz.pinned (.plain (OpenSpec.upto chainMakesSpec)) chainMakesUptoCard

/-- THE SECOND FORM's CARD OF 'faultlinelaw49.ChainReaches'. -/
def chainReachesUptoCard : Claim7 := { stood := { row := chainReachesUptoRow, standIns := [], harness := (true, "5ffd08722884ab5c0ff77a84f82cc7b608f016e52e133aa4c3479a06622200b4"), looks := true }, kinds := [], alts := [], laidByText := true, laidKinds := [.data, .data, .data], laidTests := true, laidLooks := .later }
def ChainReachesUptoCardSaid : Prop := Claim7.holds Tryz.pinned (.plain (OpenSpec.upto chainReachesSpec)) chainReachesUptoCard

/-- THE SECOND FORM's CARD OF 'faultlinelaw49.ChainFollows'. -/
def chainFollowsUptoCard : Claim7 := { stood := { row := chainFollowsUptoRow, standIns := [], harness := (true, "5ffd08722884ab5c0ff77a84f82cc7b608f016e52e133aa4c3479a06622200b4"), looks := true }, kinds := [], alts := [], laidByText := true, laidKinds := [.data, .data, .data], laidTests := true, laidLooks := .later }
def ChainFollowsUptoCardSaid : Prop := Claim7.holds Tryz.pinned (.plain (OpenSpec.upto chainFollowsSpec)) chainFollowsUptoCard

/-- THE SECOND FORM's CARD OF 'faultlinelaw49.ChainSums'. -/
def chainSumsUptoCard : Claim7 := { stood := { row := chainSumsUptoRow, standIns := [], harness := (true, "5ffd08722884ab5c0ff77a84f82cc7b608f016e52e133aa4c3479a06622200b4"), looks := true }, kinds := [], alts := [], laidByText := true, laidKinds := [.data, .data, .data], laidTests := true, laidLooks := .later }
def ChainSumsUptoCardSaid : Prop := Claim7.holds Tryz.pinned (.plain (OpenSpec.upto chainSumsSpec)) chainSumsUptoCard

/-- THE SECOND FORM's CARD OF 'faultlinelaw49.ChainChecks'. -/
def chainChecksUptoCard : Claim7 := { stood := { row := chainChecksUptoRow, standIns := [], harness := (true, "5ffd08722884ab5c0ff77a84f82cc7b608f016e52e133aa4c3479a06622200b4"), looks := true }, kinds := [], alts := [], laidByText := true, laidKinds := [.data, .data, .data], laidTests := true, laidLooks := .later }
def ChainChecksUptoCardSaid : Prop := Claim7.holds Tryz.pinned (.plain (OpenSpec.upto chainChecksSpec)) chainChecksUptoCard
end Rows
end Go.Proofs.YtoiopnmphbnjaaaGreatDoor
