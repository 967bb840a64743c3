/-
  NARROWER THAN 'FOR EVERY INPUT', by the rows' own cells (each row's printed sentence says how): AbsorbSolves: laid · AbsorbTells: laid · AbsorbRight: laid · AbsorbSteps: laid.
  DERIVED. THE GIVEN ROWS OF THIS SEAT. 4 by the template 'for every input the law returns true; each argument reads behind the call as it read before'; 0 by the template 'total and deterministic' (their statements: YtomkdgcpmpbfhaaGreatDoorTotals.lean).
  GIVEN WITH THE SEED: the statements are not yours to turn. If you find one false, say at which input.
  Laid BY PROGRAM, IN A SANDBOX (cutbox-rows.mjs): the forced cells as the released guide's own fill.sh prints them over the translation 08287bf1d1e97131… (all of the seat's roots in one cut). By AI agents, Wed Nov 11 2026. No macro, syntax, notation, axiom, sorry.
-/
import Derived.Test.YtomkdgcpmpbfhaaGreatDoorChecked
import GoSem.PinnedTables
import GoSem.Claim
import GoSem.ClaimJoined
import GoSem.ClaimMapViews
import Derived.JoinedTies
import Derived.KernelRfl
namespace Go.Proofs.YtomkdgcpmpbfhaaGreatDoor
/- THE CELL 'sum', in the pinned program and in every row, IS THE sha256 OF THE DUMP (.gsa) THAT YtomkdgcpmpbfhaaGreatDoorProg.lean LOADS. Nothing in Lean hashes anything: it is a label: what it is worth is what the hold of that sum in a sandbox is worth. -/
noncomputable def Tryz.pinned : Pinned := { name := "ytomkdgcpmpbfhaagreatdoor", sum := "08287bf1d1e9713123c111dff8c4e50282d9b366a0e01af24b053ae4bfb67c3f", checked := Tryz.checked }
namespace Rows
def none {H : Type} : Left H := { results := [], args := [] }

/- WHAT THE LISTED PACKAGE-LEVEL VARIABLES READ AS WHEN THE CALL BEGINS. Each datum BY PROGRAM (the guide's laid-datum.mjs) off the statement by which the dump's own 'gosem.cut.vars' lays the variable. In a bare row this is a premise. The card (YtomkdgcpmpbfhaaGreatDoorCards.lean) ties it to the program's text. -/
def laid_unicode_utf8_acceptRanges {H : Type} : DataW H := .agg [.agg [.lit (.int .u8 128), .lit (.int .u8 191)], .agg [.lit (.int .u8 160), .lit (.int .u8 191)], .agg [.lit (.int .u8 128), .lit (.int .u8 159)], .agg [.lit (.int .u8 144), .lit (.int .u8 191)], .agg [.lit (.int .u8 128), .lit (.int .u8 143)], .agg [.lit (.int .u8 0), .lit (.int .u8 0)], .agg [.lit (.int .u8 0), .lit (.int .u8 0)], .agg [.lit (.int .u8 0), .lit (.int .u8 0)], .agg [.lit (.int .u8 0), .lit (.int .u8 0)], .agg [.lit (.int .u8 0), .lit (.int .u8 0)], .agg [.lit (.int .u8 0), .lit (.int .u8 0)], .agg [.lit (.int .u8 0), .lit (.int .u8 0)], .agg [.lit (.int .u8 0), .lit (.int .u8 0)], .agg [.lit (.int .u8 0), .lit (.int .u8 0)], .agg [.lit (.int .u8 0), .lit (.int .u8 0)], .agg [.lit (.int .u8 0), .lit (.int .u8 0)]]
/-- One of Go's own tables, pinned by name: the form's constant. -/
def laid_unicode_utf8_first : DataW Unit := Go.Pinned.utf8First

/-- 'faultlinelaw54.AbsorbSolves': WHATEVER THE INPUT: true; the input reads as it did. -/
def absorbSolvesSpec : ChangeSpec := { name := "absorbSolves", fn := fun _ => fun
  | [d] => { results := [.lit (.bool true)], args := [d] }
  | _ => none }
def absorbSolvesRow : OpenClaim := { program := "ytomkdgcpmpbfhaagreatdoor", sum := "08287bf1d1e9713123c111dff8c4e50282d9b366a0e01af24b053ae4bfb67c3f", func := "faultline/faultlinelaw54.AbsorbSolves", spec := "absorbSolves", inPlace := ["internal/abi.NoEscape", "internal/bytealg.IndexByteString", "internal/bytealg.IndexString"], named := ["unicode/utf8.first", "unicode/utf8.acceptRanges", "internal/bytealg.MaxLen"], apart := false, laid := [("unicode/utf8.acceptRanges", laid_unicode_utf8_acceptRanges), ("unicode/utf8.first", laid_unicode_utf8_first)] }
def AbsorbSolvesSaid : Prop := absorbSolvesRow.holds Tryz.pinned (OpenSpec.ofChange absorbSolvesSpec)

/-- ITS FALSE NEIGHBOUR: 'it returns false'. Refute it at one input. -/
def absorbSolvesWrong : ChangeSpec := { name := "absorbSolves", fn := fun _ => fun
  | [d] => { results := [.lit (.bool false)], args := [d] }
  | _ => none }
def AbsorbSolvesWrongFalsely : Prop := absorbSolvesRow.holds Tryz.pinned (OpenSpec.ofChange absorbSolvesWrong)

/-- 'faultlinelaw54.AbsorbTells': WHATEVER THE INPUT: true; the input reads as it did. -/
def absorbTellsSpec : ChangeSpec := { name := "absorbTells", fn := fun _ => fun
  | [d1, d2] => { results := [.lit (.bool true)], args := [d1, d2] }
  | _ => none }
def absorbTellsRow : OpenClaim := { program := "ytomkdgcpmpbfhaagreatdoor", sum := "08287bf1d1e9713123c111dff8c4e50282d9b366a0e01af24b053ae4bfb67c3f", func := "faultline/faultlinelaw54.AbsorbTells", spec := "absorbTells", inPlace := ["internal/abi.NoEscape", "internal/bytealg.IndexByteString", "internal/bytealg.IndexString"], unfollowed := true, recurses := true, named := ["unicode/utf8.first", "unicode/utf8.acceptRanges", "internal/bytealg.MaxLen"], apart := false, laid := [("unicode/utf8.acceptRanges", laid_unicode_utf8_acceptRanges), ("unicode/utf8.first", laid_unicode_utf8_first)] }
def AbsorbTellsSaid : Prop := absorbTellsRow.holds Tryz.pinned (OpenSpec.ofChange absorbTellsSpec)

/-- ITS FALSE NEIGHBOUR: 'it returns false'. Refute it at one input. -/
def absorbTellsWrong : ChangeSpec := { name := "absorbTells", fn := fun _ => fun
  | [d1, d2] => { results := [.lit (.bool false)], args := [d1, d2] }
  | _ => none }
def AbsorbTellsWrongFalsely : Prop := absorbTellsRow.holds Tryz.pinned (OpenSpec.ofChange absorbTellsWrong)

/-- 'faultlinelaw54.AbsorbRight': WHATEVER THE INPUT: true; the input reads as it did. -/
def absorbRightSpec : ChangeSpec := { name := "absorbRight", fn := fun _ => fun
  | [d1, d2] => { results := [.lit (.bool true)], args := [d1, d2] }
  | _ => none }
def absorbRightRow : OpenClaim := { program := "ytomkdgcpmpbfhaagreatdoor", sum := "08287bf1d1e9713123c111dff8c4e50282d9b366a0e01af24b053ae4bfb67c3f", func := "faultline/faultlinelaw54.AbsorbRight", spec := "absorbRight", inPlace := ["internal/abi.NoEscape", "internal/bytealg.IndexByteString", "internal/bytealg.IndexString"], unfollowed := true, recurses := true, named := ["unicode/utf8.first", "unicode/utf8.acceptRanges", "internal/bytealg.MaxLen"], apart := false, laid := [("unicode/utf8.acceptRanges", laid_unicode_utf8_acceptRanges), ("unicode/utf8.first", laid_unicode_utf8_first)] }
def AbsorbRightSaid : Prop := absorbRightRow.holds Tryz.pinned (OpenSpec.ofChange absorbRightSpec)

/-- ITS FALSE NEIGHBOUR: 'it returns false'. Refute it at one input. -/
def absorbRightWrong : ChangeSpec := { name := "absorbRight", fn := fun _ => fun
  | [d1, d2] => { results := [.lit (.bool false)], args := [d1, d2] }
  | _ => none }
def AbsorbRightWrongFalsely : Prop := absorbRightRow.holds Tryz.pinned (OpenSpec.ofChange absorbRightWrong)

/-- 'faultlinelaw54.AbsorbSteps': WHATEVER THE INPUT: true; the input reads as it did. -/
def absorbStepsSpec : ChangeSpec := { name := "absorbSteps", fn := fun _ => fun
  | [d1, d2] => { results := [.lit (.bool true)], args := [d1, d2] }
  | _ => none }
def absorbStepsRow : OpenClaim := { program := "ytomkdgcpmpbfhaagreatdoor", sum := "08287bf1d1e9713123c111dff8c4e50282d9b366a0e01af24b053ae4bfb67c3f", func := "faultline/faultlinelaw54.AbsorbSteps", spec := "absorbSteps", inPlace := ["internal/abi.NoEscape", "internal/bytealg.IndexByteString", "internal/bytealg.IndexString"], unfollowed := true, recurses := true, named := ["unicode/utf8.first", "unicode/utf8.acceptRanges", "internal/bytealg.MaxLen"], apart := false, laid := [("unicode/utf8.acceptRanges", laid_unicode_utf8_acceptRanges), ("unicode/utf8.first", laid_unicode_utf8_first)] }
def AbsorbStepsSaid : Prop := absorbStepsRow.holds Tryz.pinned (OpenSpec.ofChange absorbStepsSpec)

/-- ITS FALSE NEIGHBOUR: 'it returns false'. Refute it at one input. -/
def absorbStepsWrong : ChangeSpec := { name := "absorbSteps", fn := fun _ => fun
  | [d1, d2] => { results := [.lit (.bool false)], args := [d1, d2] }
  | _ => none }
def AbsorbStepsWrongFalsely : Prop := absorbStepsRow.holds Tryz.pinned (OpenSpec.ofChange absorbStepsWrong)

/- THE SECOND FORM. 'bulk': how many values and letters a reading holds, each counted each time it is reached (what is shared counts as often as it is met; a slice's spare places count too). A statement '..UptoSaid' is the law's where the arguments, and the package variables that the reading takes, are together of bulk at most 1048576: NARROWER than '..Said'. Prove '..Said' where nothing that the law and all that it calls make is longer than what came in: it says more and counts as full. Else prove '..UptoSaid'. A law counts once. -/
mutual
def uptoBulk {H : Type} : DataW H → Nat
  | .lit (.string bytes) => bytes.length + 1
  | .lit _ => 1
  | .nil => 1
  | .ptr d => uptoBulk d + 1
  | .slice elems spare => uptoBulkAll elems + uptoBulkAll spare + 1
  | .agg parts => uptoBulkAll parts + 1
  | .iface _ d => uptoBulk d + 1
  | .map entries => uptoBulkEntries entries + 1
  | .held _ => 1
def uptoBulkAll {H : Type} : List (DataW H) → Nat
  | [] => 0
  | d :: r => uptoBulk d + uptoBulkAll r
def uptoBulkEntries {H : Type} : List (Lit × DataW H) → Nat
  | [] => 0
  | x :: r => uptoBulkEntry x + uptoBulkEntries r
def uptoBulkEntry {H : Type} : Lit × DataW H → Nat
  | (.string bytes, d) => bytes.length + uptoBulk d + 1
  | (_, d) => uptoBulk d + 1
 end
def uptoSmall : (H : Type) → List (DataW H) → Bool := fun _ ds => decide (uptoBulkAll ds ≤ 1048576)
def OpenSpec.upto (s : _root_.Go.ChangeSpec) : _root_.Go.OpenSpec := { _root_.Go.OpenSpec.ofChange s with cond := some uptoSmall }

/-- 'faultlinelaw54.AbsorbSolves', WHERE WHAT IT READS IS OF BULK AT MOST 1048576: true; the input reads as it did. -/
def absorbSolvesUptoRow : OpenClaim := { program := "ytomkdgcpmpbfhaagreatdoor", sum := "08287bf1d1e9713123c111dff8c4e50282d9b366a0e01af24b053ae4bfb67c3f", func := "faultline/faultlinelaw54.AbsorbSolves", spec := "absorbSolves", inPlace := ["internal/abi.NoEscape", "internal/bytealg.IndexByteString", "internal/bytealg.IndexString"], named := ["unicode/utf8.first", "unicode/utf8.acceptRanges", "internal/bytealg.MaxLen"], apart := false, laid := [("unicode/utf8.acceptRanges", laid_unicode_utf8_acceptRanges), ("unicode/utf8.first", laid_unicode_utf8_first)], narrowed := true }
def AbsorbSolvesUptoSaid : Prop := absorbSolvesUptoRow.holds Tryz.pinned (OpenSpec.upto absorbSolvesSpec)

/-- 'faultlinelaw54.AbsorbTells', WHERE WHAT IT READS IS OF BULK AT MOST 1048576: true; the input reads as it did. -/
def absorbTellsUptoRow : OpenClaim := { program := "ytomkdgcpmpbfhaagreatdoor", sum := "08287bf1d1e9713123c111dff8c4e50282d9b366a0e01af24b053ae4bfb67c3f", func := "faultline/faultlinelaw54.AbsorbTells", spec := "absorbTells", inPlace := ["internal/abi.NoEscape", "internal/bytealg.IndexByteString", "internal/bytealg.IndexString"], unfollowed := true, recurses := true, named := ["unicode/utf8.first", "unicode/utf8.acceptRanges", "internal/bytealg.MaxLen"], apart := false, laid := [("unicode/utf8.acceptRanges", laid_unicode_utf8_acceptRanges), ("unicode/utf8.first", laid_unicode_utf8_first)], narrowed := true }
def AbsorbTellsUptoSaid : Prop := absorbTellsUptoRow.holds Tryz.pinned (OpenSpec.upto absorbTellsSpec)

/-- 'faultlinelaw54.AbsorbRight', WHERE WHAT IT READS IS OF BULK AT MOST 1048576: true; the input reads as it did. -/
def absorbRightUptoRow : OpenClaim := { program := "ytomkdgcpmpbfhaagreatdoor", sum := "08287bf1d1e9713123c111dff8c4e50282d9b366a0e01af24b053ae4bfb67c3f", func := "faultline/faultlinelaw54.AbsorbRight", spec := "absorbRight", inPlace := ["internal/abi.NoEscape", "internal/bytealg.IndexByteString", "internal/bytealg.IndexString"], unfollowed := true, recurses := true, named := ["unicode/utf8.first", "unicode/utf8.acceptRanges", "internal/bytealg.MaxLen"], apart := false, laid := [("unicode/utf8.acceptRanges", laid_unicode_utf8_acceptRanges), ("unicode/utf8.first", laid_unicode_utf8_first)], narrowed := true }
def AbsorbRightUptoSaid : Prop := absorbRightUptoRow.holds Tryz.pinned (OpenSpec.upto absorbRightSpec)

/-- 'faultlinelaw54.AbsorbSteps', WHERE WHAT IT READS IS OF BULK AT MOST 1048576: true; the input reads as it did. -/
def absorbStepsUptoRow : OpenClaim := { program := "ytomkdgcpmpbfhaagreatdoor", sum := "08287bf1d1e9713123c111dff8c4e50282d9b366a0e01af24b053ae4bfb67c3f", func := "faultline/faultlinelaw54.AbsorbSteps", spec := "absorbSteps", inPlace := ["internal/abi.NoEscape", "internal/bytealg.IndexByteString", "internal/bytealg.IndexString"], unfollowed := true, recurses := true, named := ["unicode/utf8.first", "unicode/utf8.acceptRanges", "internal/bytealg.MaxLen"], apart := false, laid := [("unicode/utf8.acceptRanges", laid_unicode_utf8_acceptRanges), ("unicode/utf8.first", laid_unicode_utf8_first)], narrowed := true }
def AbsorbStepsUptoSaid : Prop := absorbStepsUptoRow.holds Tryz.pinned (OpenSpec.upto absorbStepsSpec)

end Rows
end Go.Proofs.YtomkdgcpmpbfhaaGreatDoor
