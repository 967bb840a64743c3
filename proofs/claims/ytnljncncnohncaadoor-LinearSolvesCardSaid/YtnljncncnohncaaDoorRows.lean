/-
  NARROWER THAN 'FOR EVERY INPUT', by the rows' own cells (each row's printed sentence says how): LinearSolves: laid · LinearRows: laid · LinearDets: laid · LinearReduces: laid · LinearMaps: laid · LinearKernel: laid · LinearSolution: laid · LinearChecks: laid.
  DERIVED. THE GIVEN ROWS OF THIS SEAT. 8 by the template 'for every input the law returns true; each argument reads behind the call as it read before'; 0 by the template 'total and deterministic' (their statements: YtnljncncnohncaaDoorTotals.lean).
  GIVEN WITH THE SEED: the statements are not yours to turn. If you find one false, say at which input.
  Laid BY PROGRAM, IN A SANDBOX (cutbox-rows.mjs): the forced cells as the released guide's own fill.sh prints them over the translation 184da247d2cec2ec… (all of the seat's roots in one cut). By AI agents, Wed Nov 11 2026. No macro, syntax, notation, axiom, sorry.
-/
import Derived.Test.YtnljncncnohncaaDoorChecked
import GoSem.PinnedTables
import GoSem.Claim
import GoSem.ClaimJoined
import GoSem.ClaimMapViews
import Derived.JoinedTies
import Derived.KernelRfl
namespace Go.Proofs.YtnljncncnohncaaDoor
/- THE CELL 'sum', in the pinned program and in every row, IS THE sha256 OF THE DUMP (.gsa) THAT YtnljncncnohncaaDoorProg.lean LOADS. Nothing in Lean hashes anything: it is a label: what it is worth is what the hold of that sum in a sandbox is worth. -/
noncomputable def Tryd.pinned : Pinned := { name := "ytnljncncnohncaadoor", sum := "184da247d2cec2ec42ae7849ddf92d3948865c91b4bc30ff35fed61898bc3c32", checked := Tryd.checked }
namespace Rows
def none {H : Type} : Left H := { results := [], args := [] }

/- WHAT THE LISTED PACKAGE-LEVEL VARIABLES READ AS WHEN THE CALL BEGINS. Each datum BY PROGRAM (the guide's laid-datum.mjs) off the statement by which the dump's own 'gosem.cut.vars' lays the variable. In a bare row this is a premise. The card (YtnljncncnohncaaDoorCards.lean) ties it to the program's text. -/
def laid_unicode_utf8_acceptRanges {H : Type} : DataW H := .agg [.agg [.lit (.int .u8 128), .lit (.int .u8 191)], .agg [.lit (.int .u8 160), .lit (.int .u8 191)], .agg [.lit (.int .u8 128), .lit (.int .u8 159)], .agg [.lit (.int .u8 144), .lit (.int .u8 191)], .agg [.lit (.int .u8 128), .lit (.int .u8 143)], .agg [.lit (.int .u8 0), .lit (.int .u8 0)], .agg [.lit (.int .u8 0), .lit (.int .u8 0)], .agg [.lit (.int .u8 0), .lit (.int .u8 0)], .agg [.lit (.int .u8 0), .lit (.int .u8 0)], .agg [.lit (.int .u8 0), .lit (.int .u8 0)], .agg [.lit (.int .u8 0), .lit (.int .u8 0)], .agg [.lit (.int .u8 0), .lit (.int .u8 0)], .agg [.lit (.int .u8 0), .lit (.int .u8 0)], .agg [.lit (.int .u8 0), .lit (.int .u8 0)], .agg [.lit (.int .u8 0), .lit (.int .u8 0)], .agg [.lit (.int .u8 0), .lit (.int .u8 0)]]
/-- One of Go's own tables, pinned by name: the form's constant. -/
def laid_unicode_utf8_first : DataW Unit := Go.Pinned.utf8First

/-- 'faultlinelaw04.LinearSolves': WHATEVER THE INPUT: true; the input reads as it did. -/
def linearSolvesSpec : ChangeSpec := { name := "linearSolves", fn := fun _ => fun
  | [d1, d2] => { results := [.lit (.bool true)], args := [d1, d2] }
  | _ => none }
def linearSolvesRow : OpenClaim := { program := "ytnljncncnohncaadoor", sum := "184da247d2cec2ec42ae7849ddf92d3948865c91b4bc30ff35fed61898bc3c32", func := "faultline/faultlinelaw04.LinearSolves", spec := "linearSolves", inPlace := ["internal/abi.NoEscape", "internal/bytealg.IndexByteString", "internal/bytealg.IndexString"], named := ["unicode/utf8.first", "unicode/utf8.acceptRanges", "internal/bytealg.MaxLen"], apart := false, laid := [("unicode/utf8.acceptRanges", laid_unicode_utf8_acceptRanges), ("unicode/utf8.first", laid_unicode_utf8_first)] }
def LinearSolvesSaid : Prop := linearSolvesRow.holds Tryd.pinned (OpenSpec.ofChange linearSolvesSpec)

/-- ITS FALSE NEIGHBOUR: 'it returns false'. Refute it at one input. -/
def linearSolvesWrong : ChangeSpec := { name := "linearSolves", fn := fun _ => fun
  | [d1, d2] => { results := [.lit (.bool false)], args := [d1, d2] }
  | _ => none }
def LinearSolvesWrongFalsely : Prop := linearSolvesRow.holds Tryd.pinned (OpenSpec.ofChange linearSolvesWrong)

/-- 'faultlinelaw04.LinearRows': WHATEVER THE INPUT: true; the input reads as it did. -/
def linearRowsSpec : ChangeSpec := { name := "linearRows", fn := fun _ => fun
  | [d] => { results := [.lit (.bool true)], args := [d] }
  | _ => none }
def linearRowsRow : OpenClaim := { program := "ytnljncncnohncaadoor", sum := "184da247d2cec2ec42ae7849ddf92d3948865c91b4bc30ff35fed61898bc3c32", func := "faultline/faultlinelaw04.LinearRows", spec := "linearRows", inPlace := ["internal/abi.NoEscape", "internal/bytealg.IndexByteString", "internal/bytealg.IndexString"], named := ["unicode/utf8.first", "unicode/utf8.acceptRanges", "internal/bytealg.MaxLen"], apart := false, laid := [("unicode/utf8.acceptRanges", laid_unicode_utf8_acceptRanges), ("unicode/utf8.first", laid_unicode_utf8_first)] }
def LinearRowsSaid : Prop := linearRowsRow.holds Tryd.pinned (OpenSpec.ofChange linearRowsSpec)

/-- ITS FALSE NEIGHBOUR: 'it returns false'. Refute it at one input. -/
def linearRowsWrong : ChangeSpec := { name := "linearRows", fn := fun _ => fun
  | [d] => { results := [.lit (.bool false)], args := [d] }
  | _ => none }
def LinearRowsWrongFalsely : Prop := linearRowsRow.holds Tryd.pinned (OpenSpec.ofChange linearRowsWrong)

/-- 'faultlinelaw04.LinearDets': WHATEVER THE INPUT: true; the input reads as it did. -/
def linearDetsSpec : ChangeSpec := { name := "linearDets", fn := fun _ => fun
  | [d1, d2] => { results := [.lit (.bool true)], args := [d1, d2] }
  | _ => none }
def linearDetsRow : OpenClaim := { program := "ytnljncncnohncaadoor", sum := "184da247d2cec2ec42ae7849ddf92d3948865c91b4bc30ff35fed61898bc3c32", func := "faultline/faultlinelaw04.LinearDets", spec := "linearDets", inPlace := ["internal/abi.NoEscape", "internal/bytealg.IndexByteString", "internal/bytealg.IndexString"], named := ["unicode/utf8.first", "unicode/utf8.acceptRanges", "internal/bytealg.MaxLen"], apart := false, laid := [("unicode/utf8.acceptRanges", laid_unicode_utf8_acceptRanges), ("unicode/utf8.first", laid_unicode_utf8_first)] }
def LinearDetsSaid : Prop := linearDetsRow.holds Tryd.pinned (OpenSpec.ofChange linearDetsSpec)

/-- ITS FALSE NEIGHBOUR: 'it returns false'. Refute it at one input. -/
def linearDetsWrong : ChangeSpec := { name := "linearDets", fn := fun _ => fun
  | [d1, d2] => { results := [.lit (.bool false)], args := [d1, d2] }
  | _ => none }
def LinearDetsWrongFalsely : Prop := linearDetsRow.holds Tryd.pinned (OpenSpec.ofChange linearDetsWrong)

/-- 'faultlinelaw04.LinearReduces': WHATEVER THE INPUT: true; the input reads as it did. -/
def linearReducesSpec : ChangeSpec := { name := "linearReduces", fn := fun _ => fun
  | [d] => { results := [.lit (.bool true)], args := [d] }
  | _ => none }
def linearReducesRow : OpenClaim := { program := "ytnljncncnohncaadoor", sum := "184da247d2cec2ec42ae7849ddf92d3948865c91b4bc30ff35fed61898bc3c32", func := "faultline/faultlinelaw04.LinearReduces", spec := "linearReduces", inPlace := ["internal/abi.NoEscape", "internal/bytealg.IndexByteString", "internal/bytealg.IndexString"], named := ["unicode/utf8.first", "unicode/utf8.acceptRanges", "internal/bytealg.MaxLen"], apart := false, laid := [("unicode/utf8.acceptRanges", laid_unicode_utf8_acceptRanges), ("unicode/utf8.first", laid_unicode_utf8_first)] }
def LinearReducesSaid : Prop := linearReducesRow.holds Tryd.pinned (OpenSpec.ofChange linearReducesSpec)

/-- ITS FALSE NEIGHBOUR: 'it returns false'. Refute it at one input. -/
def linearReducesWrong : ChangeSpec := { name := "linearReduces", fn := fun _ => fun
  | [d] => { results := [.lit (.bool false)], args := [d] }
  | _ => none }
def LinearReducesWrongFalsely : Prop := linearReducesRow.holds Tryd.pinned (OpenSpec.ofChange linearReducesWrong)

/-- 'faultlinelaw04.LinearMaps': WHATEVER THE INPUT: true; the input reads as it did. -/
def linearMapsSpec : ChangeSpec := { name := "linearMaps", fn := fun _ => fun
  | [d1, d2, d3] => { results := [.lit (.bool true)], args := [d1, d2, d3] }
  | _ => none }
def linearMapsRow : OpenClaim := { program := "ytnljncncnohncaadoor", sum := "184da247d2cec2ec42ae7849ddf92d3948865c91b4bc30ff35fed61898bc3c32", func := "faultline/faultlinelaw04.LinearMaps", spec := "linearMaps", inPlace := ["internal/abi.NoEscape", "internal/bytealg.IndexByteString", "internal/bytealg.IndexString"], named := ["unicode/utf8.first", "unicode/utf8.acceptRanges", "internal/bytealg.MaxLen"], apart := false, laid := [("unicode/utf8.acceptRanges", laid_unicode_utf8_acceptRanges), ("unicode/utf8.first", laid_unicode_utf8_first)] }
def LinearMapsSaid : Prop := linearMapsRow.holds Tryd.pinned (OpenSpec.ofChange linearMapsSpec)

/-- ITS FALSE NEIGHBOUR: 'it returns false'. Refute it at one input. -/
def linearMapsWrong : ChangeSpec := { name := "linearMaps", fn := fun _ => fun
  | [d1, d2, d3] => { results := [.lit (.bool false)], args := [d1, d2, d3] }
  | _ => none }
def LinearMapsWrongFalsely : Prop := linearMapsRow.holds Tryd.pinned (OpenSpec.ofChange linearMapsWrong)

/-- 'faultlinelaw04.LinearKernel': WHATEVER THE INPUT: true; the input reads as it did. -/
def linearKernelSpec : ChangeSpec := { name := "linearKernel", fn := fun _ => fun
  | [d] => { results := [.lit (.bool true)], args := [d] }
  | _ => none }
def linearKernelRow : OpenClaim := { program := "ytnljncncnohncaadoor", sum := "184da247d2cec2ec42ae7849ddf92d3948865c91b4bc30ff35fed61898bc3c32", func := "faultline/faultlinelaw04.LinearKernel", spec := "linearKernel", inPlace := ["internal/abi.NoEscape", "internal/bytealg.IndexByteString", "internal/bytealg.IndexString"], named := ["unicode/utf8.first", "unicode/utf8.acceptRanges", "internal/bytealg.MaxLen"], apart := false, laid := [("unicode/utf8.acceptRanges", laid_unicode_utf8_acceptRanges), ("unicode/utf8.first", laid_unicode_utf8_first)] }
def LinearKernelSaid : Prop := linearKernelRow.holds Tryd.pinned (OpenSpec.ofChange linearKernelSpec)

/-- ITS FALSE NEIGHBOUR: 'it returns false'. Refute it at one input. -/
def linearKernelWrong : ChangeSpec := { name := "linearKernel", fn := fun _ => fun
  | [d] => { results := [.lit (.bool false)], args := [d] }
  | _ => none }
def LinearKernelWrongFalsely : Prop := linearKernelRow.holds Tryd.pinned (OpenSpec.ofChange linearKernelWrong)

/-- 'faultlinelaw04.LinearSolution': WHATEVER THE INPUT: true; the input reads as it did. -/
def linearSolutionSpec : ChangeSpec := { name := "linearSolution", fn := fun _ => fun
  | [d1, d2] => { results := [.lit (.bool true)], args := [d1, d2] }
  | _ => none }
def linearSolutionRow : OpenClaim := { program := "ytnljncncnohncaadoor", sum := "184da247d2cec2ec42ae7849ddf92d3948865c91b4bc30ff35fed61898bc3c32", func := "faultline/faultlinelaw04.LinearSolution", spec := "linearSolution", inPlace := ["internal/abi.NoEscape", "internal/bytealg.IndexByteString", "internal/bytealg.IndexString"], named := ["unicode/utf8.first", "unicode/utf8.acceptRanges", "internal/bytealg.MaxLen"], apart := false, laid := [("unicode/utf8.acceptRanges", laid_unicode_utf8_acceptRanges), ("unicode/utf8.first", laid_unicode_utf8_first)] }
def LinearSolutionSaid : Prop := linearSolutionRow.holds Tryd.pinned (OpenSpec.ofChange linearSolutionSpec)

/-- ITS FALSE NEIGHBOUR: 'it returns false'. Refute it at one input. -/
def linearSolutionWrong : ChangeSpec := { name := "linearSolution", fn := fun _ => fun
  | [d1, d2] => { results := [.lit (.bool false)], args := [d1, d2] }
  | _ => none }
def LinearSolutionWrongFalsely : Prop := linearSolutionRow.holds Tryd.pinned (OpenSpec.ofChange linearSolutionWrong)

/-- 'faultlinelaw04.LinearChecks': WHATEVER THE INPUT: true; the input reads as it did. -/
def linearChecksSpec : ChangeSpec := { name := "linearChecks", fn := fun _ => fun
  | [d1, d2] => { results := [.lit (.bool true)], args := [d1, d2] }
  | _ => none }
def linearChecksRow : OpenClaim := { program := "ytnljncncnohncaadoor", sum := "184da247d2cec2ec42ae7849ddf92d3948865c91b4bc30ff35fed61898bc3c32", func := "faultline/faultlinelaw04.LinearChecks", spec := "linearChecks", inPlace := ["internal/abi.NoEscape", "internal/bytealg.IndexByteString", "internal/bytealg.IndexString"], named := ["unicode/utf8.first", "unicode/utf8.acceptRanges", "internal/bytealg.MaxLen"], apart := false, laid := [("unicode/utf8.acceptRanges", laid_unicode_utf8_acceptRanges), ("unicode/utf8.first", laid_unicode_utf8_first)] }
def LinearChecksSaid : Prop := linearChecksRow.holds Tryd.pinned (OpenSpec.ofChange linearChecksSpec)

/-- ITS FALSE NEIGHBOUR: 'it returns false'. Refute it at one input. -/
def linearChecksWrong : ChangeSpec := { name := "linearChecks", fn := fun _ => fun
  | [d1, d2] => { results := [.lit (.bool false)], args := [d1, d2] }
  | _ => none }
def LinearChecksWrongFalsely : Prop := linearChecksRow.holds Tryd.pinned (OpenSpec.ofChange linearChecksWrong)

/- THE SECOND FORM. 'bulk': how many values and letters a reading holds, each counted each time it is reached (what is shared counts as often as it is met; a slice's spare places count too). A statement '..UptoSaid' is the law's where the arguments, and the package variables that the reading takes, are together of bulk at most 1048576: NARROWER than '..Said'. Prove '..Said' where nothing that the law and all that it calls make is longer than what came in: it says more and counts as full. Else prove '..UptoSaid'. A law counts once. -/
mutual
def uptoBulk {H : Type} : DataW H → Nat
  | .lit (.string bytes) => bytes.length + 1
  | .lit _ => 1
  | .nil => 1
  | .ptr d => uptoBulk d + 1
  | .slice elems spare => uptoBulkAll elems + uptoBulkAll spare + 1
  | .agg parts => uptoBulkAll parts + 1
  | .iface _ d => uptoBulk d + 1
  | .map entries => uptoBulkEntries entries + 1
  | .held _ => 1
def uptoBulkAll {H : Type} : List (DataW H) → Nat
  | [] => 0
  | d :: r => uptoBulk d + uptoBulkAll r
def uptoBulkEntries {H : Type} : List (Lit × DataW H) → Nat
  | [] => 0
  | x :: r => uptoBulkEntry x + uptoBulkEntries r
def uptoBulkEntry {H : Type} : Lit × DataW H → Nat
  | (.string bytes, d) => bytes.length + uptoBulk d + 1
  | (_, d) => uptoBulk d + 1
 end
def uptoSmall : (H : Type) → List (DataW H) → Bool := fun _ ds => decide (uptoBulkAll ds ≤ 1048576)
def OpenSpec.upto (s : _root_.Go.ChangeSpec) : _root_.Go.OpenSpec := { _root_.Go.OpenSpec.ofChange s with cond := some uptoSmall }

/-- 'faultlinelaw04.LinearSolves', WHERE WHAT IT READS IS OF BULK AT MOST 1048576: true; the input reads as it did. -/
def linearSolvesUptoRow : OpenClaim := { program := "ytnljncncnohncaadoor", sum := "184da247d2cec2ec42ae7849ddf92d3948865c91b4bc30ff35fed61898bc3c32", func := "faultline/faultlinelaw04.LinearSolves", spec := "linearSolves", inPlace := ["internal/abi.NoEscape", "internal/bytealg.IndexByteString", "internal/bytealg.IndexString"], named := ["unicode/utf8.first", "unicode/utf8.acceptRanges", "internal/bytealg.MaxLen"], apart := false, laid := [("unicode/utf8.acceptRanges", laid_unicode_utf8_acceptRanges), ("unicode/utf8.first", laid_unicode_utf8_first)], narrowed := true }
def LinearSolvesUptoSaid : Prop := linearSolvesUptoRow.holds Tryd.pinned (OpenSpec.upto linearSolvesSpec)

/-- 'faultlinelaw04.LinearRows', WHERE WHAT IT READS IS OF BULK AT MOST 1048576: true; the input reads as it did. -/
def linearRowsUptoRow : OpenClaim := { program := "ytnljncncnohncaadoor", sum := "184da247d2cec2ec42ae7849ddf92d3948865c91b4bc30ff35fed61898bc3c32", func := "faultline/faultlinelaw04.LinearRows", spec := "linearRows", inPlace := ["internal/abi.NoEscape", "internal/bytealg.IndexByteString", "internal/bytealg.IndexString"], named := ["unicode/utf8.first", "unicode/utf8.acceptRanges", "internal/bytealg.MaxLen"], apart := false, laid := [("unicode/utf8.acceptRanges", laid_unicode_utf8_acceptRanges), ("unicode/utf8.first", laid_unicode_utf8_first)], narrowed := true }
def LinearRowsUptoSaid : Prop := linearRowsUptoRow.holds Tryd.pinned (OpenSpec.upto linearRowsSpec)

/-- 'faultlinelaw04.LinearDets', WHERE WHAT IT READS IS OF BULK AT MOST 1048576: true; the input reads as it did. -/
def linearDetsUptoRow : OpenClaim := { program := "ytnljncncnohncaadoor", sum := "184da247d2cec2ec42ae7849ddf92d3948865c91b4bc30ff35fed61898bc3c32", func := "faultline/faultlinelaw04.LinearDets", spec := "linearDets", inPlace := ["internal/abi.NoEscape", "internal/bytealg.IndexByteString", "internal/bytealg.IndexString"], named := ["unicode/utf8.first", "unicode/utf8.acceptRanges", "internal/bytealg.MaxLen"], apart := false, laid := [("unicode/utf8.acceptRanges", laid_unicode_utf8_acceptRanges), ("unicode/utf8.first", laid_unicode_utf8_first)], narrowed := true }
def LinearDetsUptoSaid : Prop := linearDetsUptoRow.holds Tryd.pinned (OpenSpec.upto linearDetsSpec)

/-- 'faultlinelaw04.LinearReduces', WHERE WHAT IT READS IS OF BULK AT MOST 1048576: true; the input reads as it did. -/
def linearReducesUptoRow : OpenClaim := { program := "ytnljncncnohncaadoor", sum := "184da247d2cec2ec42ae7849ddf92d3948865c91b4bc30ff35fed61898bc3c32", func := "faultline/faultlinelaw04.LinearReduces", spec := "linearReduces", inPlace := ["internal/abi.NoEscape", "internal/bytealg.IndexByteString", "internal/bytealg.IndexString"], named := ["unicode/utf8.first", "unicode/utf8.acceptRanges", "internal/bytealg.MaxLen"], apart := false, laid := [("unicode/utf8.acceptRanges", laid_unicode_utf8_acceptRanges), ("unicode/utf8.first", laid_unicode_utf8_first)], narrowed := true }
def LinearReducesUptoSaid : Prop := linearReducesUptoRow.holds Tryd.pinned (OpenSpec.upto linearReducesSpec)

/-- 'faultlinelaw04.LinearMaps', WHERE WHAT IT READS IS OF BULK AT MOST 1048576: true; the input reads as it did. -/
def linearMapsUptoRow : OpenClaim := { program := "ytnljncncnohncaadoor", sum := "184da247d2cec2ec42ae7849ddf92d3948865c91b4bc30ff35fed61898bc3c32", func := "faultline/faultlinelaw04.LinearMaps", spec := "linearMaps", inPlace := ["internal/abi.NoEscape", "internal/bytealg.IndexByteString", "internal/bytealg.IndexString"], named := ["unicode/utf8.first", "unicode/utf8.acceptRanges", "internal/bytealg.MaxLen"], apart := false, laid := [("unicode/utf8.acceptRanges", laid_unicode_utf8_acceptRanges), ("unicode/utf8.first", laid_unicode_utf8_first)], narrowed := true }
def LinearMapsUptoSaid : Prop := linearMapsUptoRow.holds Tryd.pinned (OpenSpec.upto linearMapsSpec)

/-- 'faultlinelaw04.LinearKernel', WHERE WHAT IT READS IS OF BULK AT MOST 1048576: true; the input reads as it did. -/
def linearKernelUptoRow : OpenClaim := { program := "ytnljncncnohncaadoor", sum := "184da247d2cec2ec42ae7849ddf92d3948865c91b4bc30ff35fed61898bc3c32", func := "faultline/faultlinelaw04.LinearKernel", spec := "linearKernel", inPlace := ["internal/abi.NoEscape", "internal/bytealg.IndexByteString", "internal/bytealg.IndexString"], named := ["unicode/utf8.first", "unicode/utf8.acceptRanges", "internal/bytealg.MaxLen"], apart := false, laid := [("unicode/utf8.acceptRanges", laid_unicode_utf8_acceptRanges), ("unicode/utf8.first", laid_unicode_utf8_first)], narrowed := true }
def LinearKernelUptoSaid : Prop := linearKernelUptoRow.holds Tryd.pinned (OpenSpec.upto linearKernelSpec)

/-- 'faultlinelaw04.LinearSolution', WHERE WHAT IT READS IS OF BULK AT MOST 1048576: true; the input reads as it did. -/
def linearSolutionUptoRow : OpenClaim := { program := "ytnljncncnohncaadoor", sum := "184da247d2cec2ec42ae7849ddf92d3948865c91b4bc30ff35fed61898bc3c32", func := "faultline/faultlinelaw04.LinearSolution", spec := "linearSolution", inPlace := ["internal/abi.NoEscape", "internal/bytealg.IndexByteString", "internal/bytealg.IndexString"], named := ["unicode/utf8.first", "unicode/utf8.acceptRanges", "internal/bytealg.MaxLen"], apart := false, laid := [("unicode/utf8.acceptRanges", laid_unicode_utf8_acceptRanges), ("unicode/utf8.first", laid_unicode_utf8_first)], narrowed := true }
def LinearSolutionUptoSaid : Prop := linearSolutionUptoRow.holds Tryd.pinned (OpenSpec.upto linearSolutionSpec)

/-- 'faultlinelaw04.LinearChecks', WHERE WHAT IT READS IS OF BULK AT MOST 1048576: true; the input reads as it did. -/
def linearChecksUptoRow : OpenClaim := { program := "ytnljncncnohncaadoor", sum := "184da247d2cec2ec42ae7849ddf92d3948865c91b4bc30ff35fed61898bc3c32", func := "faultline/faultlinelaw04.LinearChecks", spec := "linearChecks", inPlace := ["internal/abi.NoEscape", "internal/bytealg.IndexByteString", "internal/bytealg.IndexString"], named := ["unicode/utf8.first", "unicode/utf8.acceptRanges", "internal/bytealg.MaxLen"], apart := false, laid := [("unicode/utf8.acceptRanges", laid_unicode_utf8_acceptRanges), ("unicode/utf8.first", laid_unicode_utf8_first)], narrowed := true }
def LinearChecksUptoSaid : Prop := linearChecksUptoRow.holds Tryd.pinned (OpenSpec.upto linearChecksSpec)

end Rows
end Go.Proofs.YtnljncncnohncaaDoor
