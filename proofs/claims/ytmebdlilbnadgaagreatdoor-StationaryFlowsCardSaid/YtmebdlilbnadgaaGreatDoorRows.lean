/-
  NARROWER THAN 'FOR EVERY INPUT', by the rows' own cells (each row's printed sentence says how): StationaryScales: laid · StationarySolves: laid · StationaryRight: laid · StationaryFlows: laid · StationaryTells: laid · TransientFixed: laid.
  DERIVED. THE GIVEN ROWS OF THIS SEAT. 6 by the template 'for every input the law returns true; each argument reads behind the call as it read before'; 0 by the template 'total and deterministic' (their statements: YtmebdlilbnadgaaGreatDoorTotals.lean).
  GIVEN WITH THE SEED: the statements are not yours to turn. If you find one false, say at which input.
  Laid BY PROGRAM, IN A SANDBOX (cutbox-rows.mjs): the forced cells as the released guide's own fill.sh prints them over the translation f212443621fcbf3d… (all of the seat's roots in one cut). By AI agents, Wed Nov 11 2026. No macro, syntax, notation, axiom, sorry.
-/
import Derived.Test.YtmebdlilbnadgaaGreatDoorChecked
import GoSem.PinnedTables
import GoSem.Claim
import GoSem.ClaimJoined
import GoSem.ClaimMapViews
import Derived.JoinedTies
import Derived.KernelRfl
namespace Go.Proofs.YtmebdlilbnadgaaGreatDoor
/- THE CELL 'sum', in the pinned program and in every row, IS THE sha256 OF THE DUMP (.gsa) THAT YtmebdlilbnadgaaGreatDoorProg.lean LOADS. Nothing in Lean hashes anything: it is a label: what it is worth is what the hold of that sum in a sandbox is worth. -/
noncomputable def Tryz.pinned : Pinned := { name := "ytmebdlilbnadgaagreatdoor", sum := "f212443621fcbf3d66776f9f49bcd67414b64fc4f722bee9c0453b8f82246321", checked := Tryz.checked }
namespace Rows
def none {H : Type} : Left H := { results := [], args := [] }

/- WHAT THE LISTED PACKAGE-LEVEL VARIABLES READ AS WHEN THE CALL BEGINS. Each datum BY PROGRAM (the guide's laid-datum.mjs) off the statement by which the dump's own 'gosem.cut.vars' lays the variable. In a bare row this is a premise. The card (YtmebdlilbnadgaaGreatDoorCards.lean) ties it to the program's text. -/
def laid_unicode_utf8_acceptRanges {H : Type} : DataW H := .agg [.agg [.lit (.int .u8 128), .lit (.int .u8 191)], .agg [.lit (.int .u8 160), .lit (.int .u8 191)], .agg [.lit (.int .u8 128), .lit (.int .u8 159)], .agg [.lit (.int .u8 144), .lit (.int .u8 191)], .agg [.lit (.int .u8 128), .lit (.int .u8 143)], .agg [.lit (.int .u8 0), .lit (.int .u8 0)], .agg [.lit (.int .u8 0), .lit (.int .u8 0)], .agg [.lit (.int .u8 0), .lit (.int .u8 0)], .agg [.lit (.int .u8 0), .lit (.int .u8 0)], .agg [.lit (.int .u8 0), .lit (.int .u8 0)], .agg [.lit (.int .u8 0), .lit (.int .u8 0)], .agg [.lit (.int .u8 0), .lit (.int .u8 0)], .agg [.lit (.int .u8 0), .lit (.int .u8 0)], .agg [.lit (.int .u8 0), .lit (.int .u8 0)], .agg [.lit (.int .u8 0), .lit (.int .u8 0)], .agg [.lit (.int .u8 0), .lit (.int .u8 0)]]
/-- One of Go's own tables, pinned by name: the form's constant. -/
def laid_unicode_utf8_first : DataW Unit := Go.Pinned.utf8First

/-- 'faultlinelaw52.StationaryScales': WHATEVER THE INPUT: true; the input reads as it did. -/
def stationaryScalesSpec : ChangeSpec := { name := "stationaryScales", fn := fun _ => fun
  | [d1, d2] => { results := [.lit (.bool true)], args := [d1, d2] }
  | _ => none }
def stationaryScalesRow : OpenClaim := { program := "ytmebdlilbnadgaagreatdoor", sum := "f212443621fcbf3d66776f9f49bcd67414b64fc4f722bee9c0453b8f82246321", func := "faultline/faultlinelaw52.StationaryScales", spec := "stationaryScales", inPlace := ["internal/abi.NoEscape", "internal/bytealg.IndexByteString", "internal/bytealg.IndexString"], unfollowed := true, recurses := true, named := ["unicode/utf8.first", "unicode/utf8.acceptRanges", "internal/bytealg.MaxLen"], plainKeys := false, apart := false, laid := [("unicode/utf8.acceptRanges", laid_unicode_utf8_acceptRanges), ("unicode/utf8.first", laid_unicode_utf8_first)] }
def StationaryScalesSaid : Prop := stationaryScalesRow.holds Tryz.pinned (OpenSpec.ofChange stationaryScalesSpec)

/-- ITS FALSE NEIGHBOUR: 'it returns false'. Refute it at one input. -/
def stationaryScalesWrong : ChangeSpec := { name := "stationaryScales", fn := fun _ => fun
  | [d1, d2] => { results := [.lit (.bool false)], args := [d1, d2] }
  | _ => none }
def StationaryScalesWrongFalsely : Prop := stationaryScalesRow.holds Tryz.pinned (OpenSpec.ofChange stationaryScalesWrong)

/-- 'faultlinelaw52.StationarySolves': WHATEVER THE INPUT: true; the input reads as it did. -/
def stationarySolvesSpec : ChangeSpec := { name := "stationarySolves", fn := fun _ => fun
  | [d] => { results := [.lit (.bool true)], args := [d] }
  | _ => none }
def stationarySolvesRow : OpenClaim := { program := "ytmebdlilbnadgaagreatdoor", sum := "f212443621fcbf3d66776f9f49bcd67414b64fc4f722bee9c0453b8f82246321", func := "faultline/faultlinelaw52.StationarySolves", spec := "stationarySolves", inPlace := ["internal/abi.NoEscape", "internal/bytealg.IndexByteString", "internal/bytealg.IndexString"], unfollowed := true, recurses := true, named := ["unicode/utf8.first", "unicode/utf8.acceptRanges", "internal/bytealg.MaxLen"], plainKeys := false, apart := false, laid := [("unicode/utf8.acceptRanges", laid_unicode_utf8_acceptRanges), ("unicode/utf8.first", laid_unicode_utf8_first)] }
def StationarySolvesSaid : Prop := stationarySolvesRow.holds Tryz.pinned (OpenSpec.ofChange stationarySolvesSpec)

/-- ITS FALSE NEIGHBOUR: 'it returns false'. Refute it at one input. -/
def stationarySolvesWrong : ChangeSpec := { name := "stationarySolves", fn := fun _ => fun
  | [d] => { results := [.lit (.bool false)], args := [d] }
  | _ => none }
def StationarySolvesWrongFalsely : Prop := stationarySolvesRow.holds Tryz.pinned (OpenSpec.ofChange stationarySolvesWrong)

/-- 'faultlinelaw52.StationaryRight': WHATEVER THE INPUT: true; the input reads as it did. -/
def stationaryRightSpec : ChangeSpec := { name := "stationaryRight", fn := fun _ => fun
  | [d1, d2] => { results := [.lit (.bool true)], args := [d1, d2] }
  | _ => none }
def stationaryRightRow : OpenClaim := { program := "ytmebdlilbnadgaagreatdoor", sum := "f212443621fcbf3d66776f9f49bcd67414b64fc4f722bee9c0453b8f82246321", func := "faultline/faultlinelaw52.StationaryRight", spec := "stationaryRight", inPlace := ["internal/abi.NoEscape", "internal/bytealg.IndexByteString", "internal/bytealg.IndexString"], unfollowed := true, recurses := true, named := ["unicode/utf8.first", "unicode/utf8.acceptRanges", "internal/bytealg.MaxLen"], plainKeys := false, apart := false, laid := [("unicode/utf8.acceptRanges", laid_unicode_utf8_acceptRanges), ("unicode/utf8.first", laid_unicode_utf8_first)] }
def StationaryRightSaid : Prop := stationaryRightRow.holds Tryz.pinned (OpenSpec.ofChange stationaryRightSpec)

/-- ITS FALSE NEIGHBOUR: 'it returns false'. Refute it at one input. -/
def stationaryRightWrong : ChangeSpec := { name := "stationaryRight", fn := fun _ => fun
  | [d1, d2] => { results := [.lit (.bool false)], args := [d1, d2] }
  | _ => none }
def StationaryRightWrongFalsely : Prop := stationaryRightRow.holds Tryz.pinned (OpenSpec.ofChange stationaryRightWrong)

/-- 'faultlinelaw52.StationaryFlows': WHATEVER THE INPUT: true; the input reads as it did. -/
def stationaryFlowsSpec : ChangeSpec := { name := "stationaryFlows", fn := fun _ => fun
  | [d1, d2] => { results := [.lit (.bool true)], args := [d1, d2] }
  | _ => none }
def stationaryFlowsRow : OpenClaim := { program := "ytmebdlilbnadgaagreatdoor", sum := "f212443621fcbf3d66776f9f49bcd67414b64fc4f722bee9c0453b8f82246321", func := "faultline/faultlinelaw52.StationaryFlows", spec := "stationaryFlows", inPlace := ["internal/abi.NoEscape", "internal/bytealg.IndexByteString", "internal/bytealg.IndexString"], unfollowed := true, recurses := true, named := ["unicode/utf8.first", "unicode/utf8.acceptRanges", "internal/bytealg.MaxLen"], plainKeys := false, apart := false, laid := [("unicode/utf8.acceptRanges", laid_unicode_utf8_acceptRanges), ("unicode/utf8.first", laid_unicode_utf8_first)] }
def StationaryFlowsSaid : Prop := stationaryFlowsRow.holds Tryz.pinned (OpenSpec.ofChange stationaryFlowsSpec)

/-- ITS FALSE NEIGHBOUR: 'it returns false'. Refute it at one input. -/
def stationaryFlowsWrong : ChangeSpec := { name := "stationaryFlows", fn := fun _ => fun
  | [d1, d2] => { results := [.lit (.bool false)], args := [d1, d2] }
  | _ => none }
def StationaryFlowsWrongFalsely : Prop := stationaryFlowsRow.holds Tryz.pinned (OpenSpec.ofChange stationaryFlowsWrong)

/-- 'faultlinelaw52.StationaryTells': WHATEVER THE INPUT: true; the input reads as it did. -/
def stationaryTellsSpec : ChangeSpec := { name := "stationaryTells", fn := fun _ => fun
  | [d1, d2] => { results := [.lit (.bool true)], args := [d1, d2] }
  | _ => none }
def stationaryTellsRow : OpenClaim := { program := "ytmebdlilbnadgaagreatdoor", sum := "f212443621fcbf3d66776f9f49bcd67414b64fc4f722bee9c0453b8f82246321", func := "faultline/faultlinelaw52.StationaryTells", spec := "stationaryTells", inPlace := ["internal/abi.NoEscape", "internal/bytealg.IndexByteString", "internal/bytealg.IndexString"], unfollowed := true, recurses := true, named := ["unicode/utf8.first", "unicode/utf8.acceptRanges", "internal/bytealg.MaxLen"], plainKeys := false, apart := false, laid := [("unicode/utf8.acceptRanges", laid_unicode_utf8_acceptRanges), ("unicode/utf8.first", laid_unicode_utf8_first)] }
def StationaryTellsSaid : Prop := stationaryTellsRow.holds Tryz.pinned (OpenSpec.ofChange stationaryTellsSpec)

/-- ITS FALSE NEIGHBOUR: 'it returns false'. Refute it at one input. -/
def stationaryTellsWrong : ChangeSpec := { name := "stationaryTells", fn := fun _ => fun
  | [d1, d2] => { results := [.lit (.bool false)], args := [d1, d2] }
  | _ => none }
def StationaryTellsWrongFalsely : Prop := stationaryTellsRow.holds Tryz.pinned (OpenSpec.ofChange stationaryTellsWrong)

/-- 'faultlinelaw53.TransientFixed': WHATEVER THE INPUT: true; the input reads as it did. -/
def transientFixedSpec : ChangeSpec := { name := "transientFixed", fn := fun _ => fun
  | [d1, d2] => { results := [.lit (.bool true)], args := [d1, d2] }
  | _ => none }
def transientFixedRow : OpenClaim := { program := "ytmebdlilbnadgaagreatdoor", sum := "f212443621fcbf3d66776f9f49bcd67414b64fc4f722bee9c0453b8f82246321", func := "faultline/faultlinelaw53.TransientFixed", spec := "transientFixed", inPlace := ["internal/abi.NoEscape", "internal/bytealg.IndexByteString", "internal/bytealg.IndexString"], unfollowed := true, recurses := true, named := ["unicode/utf8.first", "unicode/utf8.acceptRanges", "internal/bytealg.MaxLen"], plainKeys := false, apart := false, laid := [("unicode/utf8.acceptRanges", laid_unicode_utf8_acceptRanges), ("unicode/utf8.first", laid_unicode_utf8_first)] }
def TransientFixedSaid : Prop := transientFixedRow.holds Tryz.pinned (OpenSpec.ofChange transientFixedSpec)

/-- ITS FALSE NEIGHBOUR: 'it returns false'. Refute it at one input. -/
def transientFixedWrong : ChangeSpec := { name := "transientFixed", fn := fun _ => fun
  | [d1, d2] => { results := [.lit (.bool false)], args := [d1, d2] }
  | _ => none }
def TransientFixedWrongFalsely : Prop := transientFixedRow.holds Tryz.pinned (OpenSpec.ofChange transientFixedWrong)

/- THE SECOND FORM. 'bulk': how many values and letters a reading holds, each counted each time it is reached (what is shared counts as often as it is met; a slice's spare places count too). A statement '..UptoSaid' is the law's where the arguments, and the package variables that the reading takes, are together of bulk at most 1048576: NARROWER than '..Said'. Prove '..Said' where nothing that the law and all that it calls make is longer than what came in: it says more and counts as full. Else prove '..UptoSaid'. A law counts once. -/
mutual
def uptoBulk {H : Type} : DataW H → Nat
  | .lit (.string bytes) => bytes.length + 1
  | .lit _ => 1
  | .nil => 1
  | .ptr d => uptoBulk d + 1
  | .slice elems spare => uptoBulkAll elems + uptoBulkAll spare + 1
  | .agg parts => uptoBulkAll parts + 1
  | .iface _ d => uptoBulk d + 1
  | .map entries => uptoBulkEntries entries + 1
  | .held _ => 1
def uptoBulkAll {H : Type} : List (DataW H) → Nat
  | [] => 0
  | d :: r => uptoBulk d + uptoBulkAll r
def uptoBulkEntries {H : Type} : List (Lit × DataW H) → Nat
  | [] => 0
  | x :: r => uptoBulkEntry x + uptoBulkEntries r
def uptoBulkEntry {H : Type} : Lit × DataW H → Nat
  | (.string bytes, d) => bytes.length + uptoBulk d + 1
  | (_, d) => uptoBulk d + 1
 end
def uptoSmall : (H : Type) → List (DataW H) → Bool := fun _ ds => decide (uptoBulkAll ds ≤ 1048576)
def OpenSpec.upto (s : _root_.Go.ChangeSpec) : _root_.Go.OpenSpec := { _root_.Go.OpenSpec.ofChange s with cond := some uptoSmall }

/-- 'faultlinelaw52.StationaryScales', WHERE WHAT IT READS IS OF BULK AT MOST 1048576: true; the input reads as it did. -/
def stationaryScalesUptoRow : OpenClaim := { program := "ytmebdlilbnadgaagreatdoor", sum := "f212443621fcbf3d66776f9f49bcd67414b64fc4f722bee9c0453b8f82246321", func := "faultline/faultlinelaw52.StationaryScales", spec := "stationaryScales", inPlace := ["internal/abi.NoEscape", "internal/bytealg.IndexByteString", "internal/bytealg.IndexString"], unfollowed := true, recurses := true, named := ["unicode/utf8.first", "unicode/utf8.acceptRanges", "internal/bytealg.MaxLen"], plainKeys := false, apart := false, laid := [("unicode/utf8.acceptRanges", laid_unicode_utf8_acceptRanges), ("unicode/utf8.first", laid_unicode_utf8_first)], narrowed := true }
def StationaryScalesUptoSaid : Prop := stationaryScalesUptoRow.holds Tryz.pinned (OpenSpec.upto stationaryScalesSpec)

/-- 'faultlinelaw52.StationarySolves', WHERE WHAT IT READS IS OF BULK AT MOST 1048576: true; the input reads as it did. -/
def stationarySolvesUptoRow : OpenClaim := { program := "ytmebdlilbnadgaagreatdoor", sum := "f212443621fcbf3d66776f9f49bcd67414b64fc4f722bee9c0453b8f82246321", func := "faultline/faultlinelaw52.StationarySolves", spec := "stationarySolves", inPlace := ["internal/abi.NoEscape", "internal/bytealg.IndexByteString", "internal/bytealg.IndexString"], unfollowed := true, recurses := true, named := ["unicode/utf8.first", "unicode/utf8.acceptRanges", "internal/bytealg.MaxLen"], plainKeys := false, apart := false, laid := [("unicode/utf8.acceptRanges", laid_unicode_utf8_acceptRanges), ("unicode/utf8.first", laid_unicode_utf8_first)], narrowed := true }
def StationarySolvesUptoSaid : Prop := stationarySolvesUptoRow.holds Tryz.pinned (OpenSpec.upto stationarySolvesSpec)

/-- 'faultlinelaw52.StationaryRight', WHERE WHAT IT READS IS OF BULK AT MOST 1048576: true; the input reads as it did. -/
def stationaryRightUptoRow : OpenClaim := { program := "ytmebdlilbnadgaagreatdoor", sum := "f212443621fcbf3d66776f9f49bcd67414b64fc4f722bee9c0453b8f82246321", func := "faultline/faultlinelaw52.StationaryRight", spec := "stationaryRight", inPlace := ["internal/abi.NoEscape", "internal/bytealg.IndexByteString", "internal/bytealg.IndexString"], unfollowed := true, recurses := true, named := ["unicode/utf8.first", "unicode/utf8.acceptRanges", "internal/bytealg.MaxLen"], plainKeys := false, apart := false, laid := [("unicode/utf8.acceptRanges", laid_unicode_utf8_acceptRanges), ("unicode/utf8.first", laid_unicode_utf8_first)], narrowed := true }
def StationaryRightUptoSaid : Prop := stationaryRightUptoRow.holds Tryz.pinned (OpenSpec.upto stationaryRightSpec)

/-- 'faultlinelaw52.StationaryFlows', WHERE WHAT IT READS IS OF BULK AT MOST 1048576: true; the input reads as it did. -/
def stationaryFlowsUptoRow : OpenClaim := { program := "ytmebdlilbnadgaagreatdoor", sum := "f212443621fcbf3d66776f9f49bcd67414b64fc4f722bee9c0453b8f82246321", func := "faultline/faultlinelaw52.StationaryFlows", spec := "stationaryFlows", inPlace := ["internal/abi.NoEscape", "internal/bytealg.IndexByteString", "internal/bytealg.IndexString"], unfollowed := true, recurses := true, named := ["unicode/utf8.first", "unicode/utf8.acceptRanges", "internal/bytealg.MaxLen"], plainKeys := false, apart := false, laid := [("unicode/utf8.acceptRanges", laid_unicode_utf8_acceptRanges), ("unicode/utf8.first", laid_unicode_utf8_first)], narrowed := true }
def StationaryFlowsUptoSaid : Prop := stationaryFlowsUptoRow.holds Tryz.pinned (OpenSpec.upto stationaryFlowsSpec)

/-- 'faultlinelaw52.StationaryTells', WHERE WHAT IT READS IS OF BULK AT MOST 1048576: true; the input reads as it did. -/
def stationaryTellsUptoRow : OpenClaim := { program := "ytmebdlilbnadgaagreatdoor", sum := "f212443621fcbf3d66776f9f49bcd67414b64fc4f722bee9c0453b8f82246321", func := "faultline/faultlinelaw52.StationaryTells", spec := "stationaryTells", inPlace := ["internal/abi.NoEscape", "internal/bytealg.IndexByteString", "internal/bytealg.IndexString"], unfollowed := true, recurses := true, named := ["unicode/utf8.first", "unicode/utf8.acceptRanges", "internal/bytealg.MaxLen"], plainKeys := false, apart := false, laid := [("unicode/utf8.acceptRanges", laid_unicode_utf8_acceptRanges), ("unicode/utf8.first", laid_unicode_utf8_first)], narrowed := true }
def StationaryTellsUptoSaid : Prop := stationaryTellsUptoRow.holds Tryz.pinned (OpenSpec.upto stationaryTellsSpec)

/-- 'faultlinelaw53.TransientFixed', WHERE WHAT IT READS IS OF BULK AT MOST 1048576: true; the input reads as it did. -/
def transientFixedUptoRow : OpenClaim := { program := "ytmebdlilbnadgaagreatdoor", sum := "f212443621fcbf3d66776f9f49bcd67414b64fc4f722bee9c0453b8f82246321", func := "faultline/faultlinelaw53.TransientFixed", spec := "transientFixed", inPlace := ["internal/abi.NoEscape", "internal/bytealg.IndexByteString", "internal/bytealg.IndexString"], unfollowed := true, recurses := true, named := ["unicode/utf8.first", "unicode/utf8.acceptRanges", "internal/bytealg.MaxLen"], plainKeys := false, apart := false, laid := [("unicode/utf8.acceptRanges", laid_unicode_utf8_acceptRanges), ("unicode/utf8.first", laid_unicode_utf8_first)], narrowed := true }
def TransientFixedUptoSaid : Prop := transientFixedUptoRow.holds Tryz.pinned (OpenSpec.upto transientFixedSpec)

end Rows
end Go.Proofs.YtmebdlilbnadgaaGreatDoor
