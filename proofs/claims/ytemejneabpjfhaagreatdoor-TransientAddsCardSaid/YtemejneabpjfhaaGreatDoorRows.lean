/-
  NARROWER THAN 'FOR EVERY INPUT', by the rows' own cells (each row's printed sentence says how): TransientRuns: laid · TransientFirst: laid · TransientSteps: laid · TransientSums: laid · TransientJoins: laid · TransientAdds: laid.
  DERIVED. THE GIVEN ROWS OF THIS SEAT. 6 by the template 'for every input the law returns true; each argument reads behind the call as it read before'; 0 by the template 'total and deterministic' (their statements: YtemejneabpjfhaaGreatDoorTotals.lean).
  GIVEN WITH THE SEED: the statements are not yours to turn. If you find one false, say at which input.
  Laid BY PROGRAM, IN A SANDBOX (cutbox-rows.mjs): the forced cells as the released guide's own fill.sh prints them over the translation f1243c94ef919142… (all of the seat's roots in one cut). By AI agents, Wed Nov 11 2026. No macro, syntax, notation, axiom, sorry.
-/
import Derived.Test.YtemejneabpjfhaaGreatDoorChecked
import GoSem.PinnedTables
import GoSem.Claim
import GoSem.ClaimJoined
import GoSem.ClaimMapViews
import Derived.JoinedTies
import Derived.KernelRfl
namespace Go.Proofs.YtemejneabpjfhaaGreatDoor
/- THE CELL 'sum', in the pinned program and in every row, IS THE sha256 OF THE DUMP (.gsa) THAT YtemejneabpjfhaaGreatDoorProg.lean LOADS. Nothing in Lean hashes anything: it is a label: what it is worth is what the hold of that sum in a sandbox is worth. -/
noncomputable def Tryz.pinned : Pinned := { name := "ytemejneabpjfhaagreatdoor", sum := "f1243c94ef91914244cc6f0b126d4ff25f24c4f42df701fb0244cb5294b68d01", checked := Tryz.checked }
namespace Rows
def none {H : Type} : Left H := { results := [], args := [] }

/- WHAT THE LISTED PACKAGE-LEVEL VARIABLES READ AS WHEN THE CALL BEGINS. Each datum BY PROGRAM (the guide's laid-datum.mjs) off the statement by which the dump's own 'gosem.cut.vars' lays the variable. In a bare row this is a premise. The card (YtemejneabpjfhaaGreatDoorCards.lean) ties it to the program's text. -/
def laid_unicode_utf8_acceptRanges {H : Type} : DataW H := .agg [.agg [.lit (.int .u8 128), .lit (.int .u8 191)], .agg [.lit (.int .u8 160), .lit (.int .u8 191)], .agg [.lit (.int .u8 128), .lit (.int .u8 159)], .agg [.lit (.int .u8 144), .lit (.int .u8 191)], .agg [.lit (.int .u8 128), .lit (.int .u8 143)], .agg [.lit (.int .u8 0), .lit (.int .u8 0)], .agg [.lit (.int .u8 0), .lit (.int .u8 0)], .agg [.lit (.int .u8 0), .lit (.int .u8 0)], .agg [.lit (.int .u8 0), .lit (.int .u8 0)], .agg [.lit (.int .u8 0), .lit (.int .u8 0)], .agg [.lit (.int .u8 0), .lit (.int .u8 0)], .agg [.lit (.int .u8 0), .lit (.int .u8 0)], .agg [.lit (.int .u8 0), .lit (.int .u8 0)], .agg [.lit (.int .u8 0), .lit (.int .u8 0)], .agg [.lit (.int .u8 0), .lit (.int .u8 0)], .agg [.lit (.int .u8 0), .lit (.int .u8 0)]]
/-- One of Go's own tables, pinned by name: the form's constant. -/
def laid_unicode_utf8_first : DataW Unit := Go.Pinned.utf8First

/-- 'faultlinelaw53.TransientRuns': WHATEVER THE INPUT: true; the input reads as it did. -/
def transientRunsSpec : ChangeSpec := { name := "transientRuns", fn := fun _ => fun
  | [d1, d2, d3] => { results := [.lit (.bool true)], args := [d1, d2, d3] }
  | _ => none }
def transientRunsRow : OpenClaim := { program := "ytemejneabpjfhaagreatdoor", sum := "f1243c94ef91914244cc6f0b126d4ff25f24c4f42df701fb0244cb5294b68d01", func := "faultline/faultlinelaw53.TransientRuns", spec := "transientRuns", inPlace := ["internal/abi.NoEscape", "internal/bytealg.IndexByteString", "internal/bytealg.IndexString"], unfollowed := true, recurses := true, named := ["unicode/utf8.first", "unicode/utf8.acceptRanges", "internal/bytealg.MaxLen"], apart := false, laid := [("unicode/utf8.acceptRanges", laid_unicode_utf8_acceptRanges), ("unicode/utf8.first", laid_unicode_utf8_first)] }
def TransientRunsSaid : Prop := transientRunsRow.holds Tryz.pinned (OpenSpec.ofChange transientRunsSpec)

/-- ITS FALSE NEIGHBOUR: 'it returns false'. Refute it at one input. -/
def transientRunsWrong : ChangeSpec := { name := "transientRuns", fn := fun _ => fun
  | [d1, d2, d3] => { results := [.lit (.bool false)], args := [d1, d2, d3] }
  | _ => none }
def TransientRunsWrongFalsely : Prop := transientRunsRow.holds Tryz.pinned (OpenSpec.ofChange transientRunsWrong)

/-- 'faultlinelaw53.TransientFirst': WHATEVER THE INPUT: true; the input reads as it did. -/
def transientFirstSpec : ChangeSpec := { name := "transientFirst", fn := fun _ => fun
  | [d1, d2, d3] => { results := [.lit (.bool true)], args := [d1, d2, d3] }
  | _ => none }
def transientFirstRow : OpenClaim := { program := "ytemejneabpjfhaagreatdoor", sum := "f1243c94ef91914244cc6f0b126d4ff25f24c4f42df701fb0244cb5294b68d01", func := "faultline/faultlinelaw53.TransientFirst", spec := "transientFirst", inPlace := ["internal/abi.NoEscape", "internal/bytealg.IndexByteString", "internal/bytealg.IndexString"], unfollowed := true, recurses := true, named := ["unicode/utf8.first", "unicode/utf8.acceptRanges", "internal/bytealg.MaxLen"], apart := false, laid := [("unicode/utf8.acceptRanges", laid_unicode_utf8_acceptRanges), ("unicode/utf8.first", laid_unicode_utf8_first)] }
def TransientFirstSaid : Prop := transientFirstRow.holds Tryz.pinned (OpenSpec.ofChange transientFirstSpec)

/-- ITS FALSE NEIGHBOUR: 'it returns false'. Refute it at one input. -/
def transientFirstWrong : ChangeSpec := { name := "transientFirst", fn := fun _ => fun
  | [d1, d2, d3] => { results := [.lit (.bool false)], args := [d1, d2, d3] }
  | _ => none }
def TransientFirstWrongFalsely : Prop := transientFirstRow.holds Tryz.pinned (OpenSpec.ofChange transientFirstWrong)

/-- 'faultlinelaw53.TransientSteps': WHATEVER THE INPUT: true; the input reads as it did. -/
def transientStepsSpec : ChangeSpec := { name := "transientSteps", fn := fun _ => fun
  | [d1, d2, d3] => { results := [.lit (.bool true)], args := [d1, d2, d3] }
  | _ => none }
def transientStepsRow : OpenClaim := { program := "ytemejneabpjfhaagreatdoor", sum := "f1243c94ef91914244cc6f0b126d4ff25f24c4f42df701fb0244cb5294b68d01", func := "faultline/faultlinelaw53.TransientSteps", spec := "transientSteps", inPlace := ["internal/abi.NoEscape", "internal/bytealg.IndexByteString", "internal/bytealg.IndexString"], unfollowed := true, recurses := true, named := ["unicode/utf8.first", "unicode/utf8.acceptRanges", "internal/bytealg.MaxLen"], apart := false, laid := [("unicode/utf8.acceptRanges", laid_unicode_utf8_acceptRanges), ("unicode/utf8.first", laid_unicode_utf8_first)] }
def TransientStepsSaid : Prop := transientStepsRow.holds Tryz.pinned (OpenSpec.ofChange transientStepsSpec)

/-- ITS FALSE NEIGHBOUR: 'it returns false'. Refute it at one input. -/
def transientStepsWrong : ChangeSpec := { name := "transientSteps", fn := fun _ => fun
  | [d1, d2, d3] => { results := [.lit (.bool false)], args := [d1, d2, d3] }
  | _ => none }
def TransientStepsWrongFalsely : Prop := transientStepsRow.holds Tryz.pinned (OpenSpec.ofChange transientStepsWrong)

/-- 'faultlinelaw53.TransientSums': WHATEVER THE INPUT: true; the input reads as it did. -/
def transientSumsSpec : ChangeSpec := { name := "transientSums", fn := fun _ => fun
  | [d1, d2, d3] => { results := [.lit (.bool true)], args := [d1, d2, d3] }
  | _ => none }
def transientSumsRow : OpenClaim := { program := "ytemejneabpjfhaagreatdoor", sum := "f1243c94ef91914244cc6f0b126d4ff25f24c4f42df701fb0244cb5294b68d01", func := "faultline/faultlinelaw53.TransientSums", spec := "transientSums", inPlace := ["internal/abi.NoEscape", "internal/bytealg.IndexByteString", "internal/bytealg.IndexString"], unfollowed := true, recurses := true, named := ["unicode/utf8.first", "unicode/utf8.acceptRanges", "internal/bytealg.MaxLen"], apart := false, laid := [("unicode/utf8.acceptRanges", laid_unicode_utf8_acceptRanges), ("unicode/utf8.first", laid_unicode_utf8_first)] }
def TransientSumsSaid : Prop := transientSumsRow.holds Tryz.pinned (OpenSpec.ofChange transientSumsSpec)

/-- ITS FALSE NEIGHBOUR: 'it returns false'. Refute it at one input. -/
def transientSumsWrong : ChangeSpec := { name := "transientSums", fn := fun _ => fun
  | [d1, d2, d3] => { results := [.lit (.bool false)], args := [d1, d2, d3] }
  | _ => none }
def TransientSumsWrongFalsely : Prop := transientSumsRow.holds Tryz.pinned (OpenSpec.ofChange transientSumsWrong)

/-- 'faultlinelaw53.TransientJoins': WHATEVER THE INPUT: true; the input reads as it did. -/
def transientJoinsSpec : ChangeSpec := { name := "transientJoins", fn := fun _ => fun
  | [d1, d2, d3] => { results := [.lit (.bool true)], args := [d1, d2, d3] }
  | _ => none }
def transientJoinsRow : OpenClaim := { program := "ytemejneabpjfhaagreatdoor", sum := "f1243c94ef91914244cc6f0b126d4ff25f24c4f42df701fb0244cb5294b68d01", func := "faultline/faultlinelaw53.TransientJoins", spec := "transientJoins", inPlace := ["internal/abi.NoEscape", "internal/bytealg.IndexByteString", "internal/bytealg.IndexString"], unfollowed := true, recurses := true, named := ["unicode/utf8.first", "unicode/utf8.acceptRanges", "internal/bytealg.MaxLen"], apart := false, laid := [("unicode/utf8.acceptRanges", laid_unicode_utf8_acceptRanges), ("unicode/utf8.first", laid_unicode_utf8_first)] }
def TransientJoinsSaid : Prop := transientJoinsRow.holds Tryz.pinned (OpenSpec.ofChange transientJoinsSpec)

/-- ITS FALSE NEIGHBOUR: 'it returns false'. Refute it at one input. -/
def transientJoinsWrong : ChangeSpec := { name := "transientJoins", fn := fun _ => fun
  | [d1, d2, d3] => { results := [.lit (.bool false)], args := [d1, d2, d3] }
  | _ => none }
def TransientJoinsWrongFalsely : Prop := transientJoinsRow.holds Tryz.pinned (OpenSpec.ofChange transientJoinsWrong)

/-- 'faultlinelaw53.TransientAdds': WHATEVER THE INPUT: true; the input reads as it did. -/
def transientAddsSpec : ChangeSpec := { name := "transientAdds", fn := fun _ => fun
  | [d1, d2, d3] => { results := [.lit (.bool true)], args := [d1, d2, d3] }
  | _ => none }
def transientAddsRow : OpenClaim := { program := "ytemejneabpjfhaagreatdoor", sum := "f1243c94ef91914244cc6f0b126d4ff25f24c4f42df701fb0244cb5294b68d01", func := "faultline/faultlinelaw53.TransientAdds", spec := "transientAdds", inPlace := ["internal/abi.NoEscape", "internal/bytealg.IndexByteString", "internal/bytealg.IndexString"], unfollowed := true, recurses := true, named := ["unicode/utf8.first", "unicode/utf8.acceptRanges", "internal/bytealg.MaxLen"], apart := false, laid := [("unicode/utf8.acceptRanges", laid_unicode_utf8_acceptRanges), ("unicode/utf8.first", laid_unicode_utf8_first)] }
def TransientAddsSaid : Prop := transientAddsRow.holds Tryz.pinned (OpenSpec.ofChange transientAddsSpec)

/-- ITS FALSE NEIGHBOUR: 'it returns false'. Refute it at one input. -/
def transientAddsWrong : ChangeSpec := { name := "transientAdds", fn := fun _ => fun
  | [d1, d2, d3] => { results := [.lit (.bool false)], args := [d1, d2, d3] }
  | _ => none }
def TransientAddsWrongFalsely : Prop := transientAddsRow.holds Tryz.pinned (OpenSpec.ofChange transientAddsWrong)

/- THE SECOND FORM. 'bulk': how many values and letters a reading holds, each counted each time it is reached (what is shared counts as often as it is met; a slice's spare places count too). A statement '..UptoSaid' is the law's where the arguments, and the package variables that the reading takes, are together of bulk at most 1048576: NARROWER than '..Said'. Prove '..Said' where nothing that the law and all that it calls make is longer than what came in: it says more and counts as full. Else prove '..UptoSaid'. A law counts once. -/
mutual
def uptoBulk {H : Type} : DataW H → Nat
  | .lit (.string bytes) => bytes.length + 1
  | .lit _ => 1
  | .nil => 1
  | .ptr d => uptoBulk d + 1
  | .slice elems spare => uptoBulkAll elems + uptoBulkAll spare + 1
  | .agg parts => uptoBulkAll parts + 1
  | .iface _ d => uptoBulk d + 1
  | .map entries => uptoBulkEntries entries + 1
  | .held _ => 1
def uptoBulkAll {H : Type} : List (DataW H) → Nat
  | [] => 0
  | d :: r => uptoBulk d + uptoBulkAll r
def uptoBulkEntries {H : Type} : List (Lit × DataW H) → Nat
  | [] => 0
  | x :: r => uptoBulkEntry x + uptoBulkEntries r
def uptoBulkEntry {H : Type} : Lit × DataW H → Nat
  | (.string bytes, d) => bytes.length + uptoBulk d + 1
  | (_, d) => uptoBulk d + 1
 end
def uptoSmall : (H : Type) → List (DataW H) → Bool := fun _ ds => decide (uptoBulkAll ds ≤ 1048576)
def OpenSpec.upto (s : _root_.Go.ChangeSpec) : _root_.Go.OpenSpec := { _root_.Go.OpenSpec.ofChange s with cond := some uptoSmall }

/-- 'faultlinelaw53.TransientRuns', WHERE WHAT IT READS IS OF BULK AT MOST 1048576: true; the input reads as it did. -/
def transientRunsUptoRow : OpenClaim := { program := "ytemejneabpjfhaagreatdoor", sum := "f1243c94ef91914244cc6f0b126d4ff25f24c4f42df701fb0244cb5294b68d01", func := "faultline/faultlinelaw53.TransientRuns", spec := "transientRuns", inPlace := ["internal/abi.NoEscape", "internal/bytealg.IndexByteString", "internal/bytealg.IndexString"], unfollowed := true, recurses := true, named := ["unicode/utf8.first", "unicode/utf8.acceptRanges", "internal/bytealg.MaxLen"], apart := false, laid := [("unicode/utf8.acceptRanges", laid_unicode_utf8_acceptRanges), ("unicode/utf8.first", laid_unicode_utf8_first)], narrowed := true }
def TransientRunsUptoSaid : Prop := transientRunsUptoRow.holds Tryz.pinned (OpenSpec.upto transientRunsSpec)

/-- 'faultlinelaw53.TransientFirst', WHERE WHAT IT READS IS OF BULK AT MOST 1048576: true; the input reads as it did. -/
def transientFirstUptoRow : OpenClaim := { program := "ytemejneabpjfhaagreatdoor", sum := "f1243c94ef91914244cc6f0b126d4ff25f24c4f42df701fb0244cb5294b68d01", func := "faultline/faultlinelaw53.TransientFirst", spec := "transientFirst", inPlace := ["internal/abi.NoEscape", "internal/bytealg.IndexByteString", "internal/bytealg.IndexString"], unfollowed := true, recurses := true, named := ["unicode/utf8.first", "unicode/utf8.acceptRanges", "internal/bytealg.MaxLen"], apart := false, laid := [("unicode/utf8.acceptRanges", laid_unicode_utf8_acceptRanges), ("unicode/utf8.first", laid_unicode_utf8_first)], narrowed := true }
def TransientFirstUptoSaid : Prop := transientFirstUptoRow.holds Tryz.pinned (OpenSpec.upto transientFirstSpec)

/-- 'faultlinelaw53.TransientSteps', WHERE WHAT IT READS IS OF BULK AT MOST 1048576: true; the input reads as it did. -/
def transientStepsUptoRow : OpenClaim := { program := "ytemejneabpjfhaagreatdoor", sum := "f1243c94ef91914244cc6f0b126d4ff25f24c4f42df701fb0244cb5294b68d01", func := "faultline/faultlinelaw53.TransientSteps", spec := "transientSteps", inPlace := ["internal/abi.NoEscape", "internal/bytealg.IndexByteString", "internal/bytealg.IndexString"], unfollowed := true, recurses := true, named := ["unicode/utf8.first", "unicode/utf8.acceptRanges", "internal/bytealg.MaxLen"], apart := false, laid := [("unicode/utf8.acceptRanges", laid_unicode_utf8_acceptRanges), ("unicode/utf8.first", laid_unicode_utf8_first)], narrowed := true }
def TransientStepsUptoSaid : Prop := transientStepsUptoRow.holds Tryz.pinned (OpenSpec.upto transientStepsSpec)

/-- 'faultlinelaw53.TransientSums', WHERE WHAT IT READS IS OF BULK AT MOST 1048576: true; the input reads as it did. -/
def transientSumsUptoRow : OpenClaim := { program := "ytemejneabpjfhaagreatdoor", sum := "f1243c94ef91914244cc6f0b126d4ff25f24c4f42df701fb0244cb5294b68d01", func := "faultline/faultlinelaw53.TransientSums", spec := "transientSums", inPlace := ["internal/abi.NoEscape", "internal/bytealg.IndexByteString", "internal/bytealg.IndexString"], unfollowed := true, recurses := true, named := ["unicode/utf8.first", "unicode/utf8.acceptRanges", "internal/bytealg.MaxLen"], apart := false, laid := [("unicode/utf8.acceptRanges", laid_unicode_utf8_acceptRanges), ("unicode/utf8.first", laid_unicode_utf8_first)], narrowed := true }
def TransientSumsUptoSaid : Prop := transientSumsUptoRow.holds Tryz.pinned (OpenSpec.upto transientSumsSpec)

/-- 'faultlinelaw53.TransientJoins', WHERE WHAT IT READS IS OF BULK AT MOST 1048576: true; the input reads as it did. -/
def transientJoinsUptoRow : OpenClaim := { program := "ytemejneabpjfhaagreatdoor", sum := "f1243c94ef91914244cc6f0b126d4ff25f24c4f42df701fb0244cb5294b68d01", func := "faultline/faultlinelaw53.TransientJoins", spec := "transientJoins", inPlace := ["internal/abi.NoEscape", "internal/bytealg.IndexByteString", "internal/bytealg.IndexString"], unfollowed := true, recurses := true, named := ["unicode/utf8.first", "unicode/utf8.acceptRanges", "internal/bytealg.MaxLen"], apart := false, laid := [("unicode/utf8.acceptRanges", laid_unicode_utf8_acceptRanges), ("unicode/utf8.first", laid_unicode_utf8_first)], narrowed := true }
def TransientJoinsUptoSaid : Prop := transientJoinsUptoRow.holds Tryz.pinned (OpenSpec.upto transientJoinsSpec)

/-- 'faultlinelaw53.TransientAdds', WHERE WHAT IT READS IS OF BULK AT MOST 1048576: true; the input reads as it did. -/
def transientAddsUptoRow : OpenClaim := { program := "ytemejneabpjfhaagreatdoor", sum := "f1243c94ef91914244cc6f0b126d4ff25f24c4f42df701fb0244cb5294b68d01", func := "faultline/faultlinelaw53.TransientAdds", spec := "transientAdds", inPlace := ["internal/abi.NoEscape", "internal/bytealg.IndexByteString", "internal/bytealg.IndexString"], unfollowed := true, recurses := true, named := ["unicode/utf8.first", "unicode/utf8.acceptRanges", "internal/bytealg.MaxLen"], apart := false, laid := [("unicode/utf8.acceptRanges", laid_unicode_utf8_acceptRanges), ("unicode/utf8.first", laid_unicode_utf8_first)], narrowed := true }
def TransientAddsUptoSaid : Prop := transientAddsUptoRow.holds Tryz.pinned (OpenSpec.upto transientAddsSpec)

end Rows
end Go.Proofs.YtemejneabpjfhaaGreatDoor
