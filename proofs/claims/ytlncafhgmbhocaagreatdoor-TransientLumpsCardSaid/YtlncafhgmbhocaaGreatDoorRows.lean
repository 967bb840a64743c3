/-
  NARROWER THAN 'FOR EVERY INPUT', by the rows' own cells (each row's printed sentence says how): LumpQuotients: laid · LumpPair: laid · LumpEnds: laid · LumpComputes: laid · LumpCoarsest: laid · LumpChains: laid · TransientLumps: laid.
  DERIVED. THE GIVEN ROWS OF THIS SEAT. 7 by the template 'for every input the law returns true; each argument reads behind the call as it read before'; 0 by the template 'total and deterministic' (their statements: YtlncafhgmbhocaaGreatDoorTotals.lean).
  GIVEN WITH THE SEED: the statements are not yours to turn. If you find one false, say at which input.
  Laid BY PROGRAM, IN A SANDBOX (cutbox-rows.mjs): the forced cells as the released guide's own fill.sh prints them over the translation 91da045112648444… (all of the seat's roots in one cut). By AI agents, Wed Nov 11 2026. No macro, syntax, notation, axiom, sorry.
-/
import Derived.Test.YtlncafhgmbhocaaGreatDoorChecked
import GoSem.PinnedTables
import GoSem.Claim
import GoSem.ClaimJoined
import GoSem.ClaimMapViews
import Derived.JoinedTies
import Derived.KernelRfl
namespace Go.Proofs.YtlncafhgmbhocaaGreatDoor
/- THE CELL 'sum', in the pinned program and in every row, IS THE sha256 OF THE DUMP (.gsa) THAT YtlncafhgmbhocaaGreatDoorProg.lean LOADS. Nothing in Lean hashes anything: it is a label: what it is worth is what the hold of that sum in a sandbox is worth. -/
noncomputable def Tryz.pinned : Pinned := { name := "ytlncafhgmbhocaagreatdoor", sum := "91da04511264844422a2435acc0cead612a6fd82070e28f52f12a876c967a010", checked := Tryz.checked }
namespace Rows
def none {H : Type} : Left H := { results := [], args := [] }

/- WHAT THE LISTED PACKAGE-LEVEL VARIABLES READ AS WHEN THE CALL BEGINS. Each datum BY PROGRAM (the guide's laid-datum.mjs) off the statement by which the dump's own 'gosem.cut.vars' lays the variable. In a bare row this is a premise. The card (YtlncafhgmbhocaaGreatDoorCards.lean) ties it to the program's text. -/
def laid_unicode_utf8_acceptRanges {H : Type} : DataW H := .agg [.agg [.lit (.int .u8 128), .lit (.int .u8 191)], .agg [.lit (.int .u8 160), .lit (.int .u8 191)], .agg [.lit (.int .u8 128), .lit (.int .u8 159)], .agg [.lit (.int .u8 144), .lit (.int .u8 191)], .agg [.lit (.int .u8 128), .lit (.int .u8 143)], .agg [.lit (.int .u8 0), .lit (.int .u8 0)], .agg [.lit (.int .u8 0), .lit (.int .u8 0)], .agg [.lit (.int .u8 0), .lit (.int .u8 0)], .agg [.lit (.int .u8 0), .lit (.int .u8 0)], .agg [.lit (.int .u8 0), .lit (.int .u8 0)], .agg [.lit (.int .u8 0), .lit (.int .u8 0)], .agg [.lit (.int .u8 0), .lit (.int .u8 0)], .agg [.lit (.int .u8 0), .lit (.int .u8 0)], .agg [.lit (.int .u8 0), .lit (.int .u8 0)], .agg [.lit (.int .u8 0), .lit (.int .u8 0)], .agg [.lit (.int .u8 0), .lit (.int .u8 0)]]
/-- One of Go's own tables, pinned by name: the form's constant. -/
def laid_unicode_utf8_first : DataW Unit := Go.Pinned.utf8First

/-- 'faultlinelaw51.LumpQuotients': WHATEVER THE INPUT: true; the input reads as it did. -/
def lumpQuotientsSpec : ChangeSpec := { name := "lumpQuotients", fn := fun _ => fun
  | [d1, d2] => { results := [.lit (.bool true)], args := [d1, d2] }
  | _ => none }
def lumpQuotientsRow : OpenClaim := { program := "ytlncafhgmbhocaagreatdoor", sum := "91da04511264844422a2435acc0cead612a6fd82070e28f52f12a876c967a010", func := "faultline/faultlinelaw51.LumpQuotients", spec := "lumpQuotients", inPlace := ["internal/abi.NoEscape", "internal/bytealg.IndexByteString", "internal/bytealg.IndexString"], unfollowed := true, recurses := true, named := ["unicode/utf8.first", "unicode/utf8.acceptRanges", "internal/bytealg.MaxLen"], apart := false, laid := [("unicode/utf8.acceptRanges", laid_unicode_utf8_acceptRanges), ("unicode/utf8.first", laid_unicode_utf8_first)] }
def LumpQuotientsSaid : Prop := lumpQuotientsRow.holds Tryz.pinned (OpenSpec.ofChange lumpQuotientsSpec)

/-- ITS FALSE NEIGHBOUR: 'it returns false'. Refute it at one input. -/
def lumpQuotientsWrong : ChangeSpec := { name := "lumpQuotients", fn := fun _ => fun
  | [d1, d2] => { results := [.lit (.bool false)], args := [d1, d2] }
  | _ => none }
def LumpQuotientsWrongFalsely : Prop := lumpQuotientsRow.holds Tryz.pinned (OpenSpec.ofChange lumpQuotientsWrong)

/-- 'faultlinelaw51.LumpPair': WHATEVER THE INPUT: true; the input reads as it did. -/
def lumpPairSpec : ChangeSpec := { name := "lumpPair", fn := fun _ => fun
  | [d1, d2] => { results := [.lit (.bool true)], args := [d1, d2] }
  | _ => none }
def lumpPairRow : OpenClaim := { program := "ytlncafhgmbhocaagreatdoor", sum := "91da04511264844422a2435acc0cead612a6fd82070e28f52f12a876c967a010", func := "faultline/faultlinelaw51.LumpPair", spec := "lumpPair", inPlace := ["internal/abi.NoEscape", "internal/bytealg.IndexByteString", "internal/bytealg.IndexString"], unfollowed := true, recurses := true, named := ["unicode/utf8.first", "unicode/utf8.acceptRanges", "internal/bytealg.MaxLen"], apart := false, laid := [("unicode/utf8.acceptRanges", laid_unicode_utf8_acceptRanges), ("unicode/utf8.first", laid_unicode_utf8_first)] }
def LumpPairSaid : Prop := lumpPairRow.holds Tryz.pinned (OpenSpec.ofChange lumpPairSpec)

/-- ITS FALSE NEIGHBOUR: 'it returns false'. Refute it at one input. -/
def lumpPairWrong : ChangeSpec := { name := "lumpPair", fn := fun _ => fun
  | [d1, d2] => { results := [.lit (.bool false)], args := [d1, d2] }
  | _ => none }
def LumpPairWrongFalsely : Prop := lumpPairRow.holds Tryz.pinned (OpenSpec.ofChange lumpPairWrong)

/-- 'faultlinelaw51.LumpEnds': WHATEVER THE INPUT: true; the input reads as it did. -/
def lumpEndsSpec : ChangeSpec := { name := "lumpEnds", fn := fun _ => fun
  | [d] => { results := [.lit (.bool true)], args := [d] }
  | _ => none }
def lumpEndsRow : OpenClaim := { program := "ytlncafhgmbhocaagreatdoor", sum := "91da04511264844422a2435acc0cead612a6fd82070e28f52f12a876c967a010", func := "faultline/faultlinelaw51.LumpEnds", spec := "lumpEnds", inPlace := ["internal/abi.NoEscape", "internal/bytealg.IndexByteString", "internal/bytealg.IndexString"], unfollowed := true, recurses := true, named := ["unicode/utf8.first", "unicode/utf8.acceptRanges", "internal/bytealg.MaxLen"], apart := false, laid := [("unicode/utf8.acceptRanges", laid_unicode_utf8_acceptRanges), ("unicode/utf8.first", laid_unicode_utf8_first)] }
def LumpEndsSaid : Prop := lumpEndsRow.holds Tryz.pinned (OpenSpec.ofChange lumpEndsSpec)

/-- ITS FALSE NEIGHBOUR: 'it returns false'. Refute it at one input. -/
def lumpEndsWrong : ChangeSpec := { name := "lumpEnds", fn := fun _ => fun
  | [d] => { results := [.lit (.bool false)], args := [d] }
  | _ => none }
def LumpEndsWrongFalsely : Prop := lumpEndsRow.holds Tryz.pinned (OpenSpec.ofChange lumpEndsWrong)

/-- 'faultlinelaw51.LumpComputes': WHATEVER THE INPUT: true; the input reads as it did. -/
def lumpComputesSpec : ChangeSpec := { name := "lumpComputes", fn := fun _ => fun
  | [d1, d2] => { results := [.lit (.bool true)], args := [d1, d2] }
  | _ => none }
def lumpComputesRow : OpenClaim := { program := "ytlncafhgmbhocaagreatdoor", sum := "91da04511264844422a2435acc0cead612a6fd82070e28f52f12a876c967a010", func := "faultline/faultlinelaw51.LumpComputes", spec := "lumpComputes", inPlace := ["internal/abi.NoEscape", "internal/bytealg.IndexByteString", "internal/bytealg.IndexString"], unfollowed := true, recurses := true, named := ["unicode/utf8.first", "unicode/utf8.acceptRanges", "internal/bytealg.MaxLen"], apart := false, laid := [("unicode/utf8.acceptRanges", laid_unicode_utf8_acceptRanges), ("unicode/utf8.first", laid_unicode_utf8_first)] }
def LumpComputesSaid : Prop := lumpComputesRow.holds Tryz.pinned (OpenSpec.ofChange lumpComputesSpec)

/-- ITS FALSE NEIGHBOUR: 'it returns false'. Refute it at one input. -/
def lumpComputesWrong : ChangeSpec := { name := "lumpComputes", fn := fun _ => fun
  | [d1, d2] => { results := [.lit (.bool false)], args := [d1, d2] }
  | _ => none }
def LumpComputesWrongFalsely : Prop := lumpComputesRow.holds Tryz.pinned (OpenSpec.ofChange lumpComputesWrong)

/-- 'faultlinelaw51.LumpCoarsest': WHATEVER THE INPUT: true; the input reads as it did. -/
def lumpCoarsestSpec : ChangeSpec := { name := "lumpCoarsest", fn := fun _ => fun
  | [d1, d2, d3] => { results := [.lit (.bool true)], args := [d1, d2, d3] }
  | _ => none }
def lumpCoarsestRow : OpenClaim := { program := "ytlncafhgmbhocaagreatdoor", sum := "91da04511264844422a2435acc0cead612a6fd82070e28f52f12a876c967a010", func := "faultline/faultlinelaw51.LumpCoarsest", spec := "lumpCoarsest", inPlace := ["internal/abi.NoEscape", "internal/bytealg.IndexByteString", "internal/bytealg.IndexString"], unfollowed := true, recurses := true, named := ["unicode/utf8.first", "unicode/utf8.acceptRanges", "internal/bytealg.MaxLen"], apart := false, laid := [("unicode/utf8.acceptRanges", laid_unicode_utf8_acceptRanges), ("unicode/utf8.first", laid_unicode_utf8_first)] }
def LumpCoarsestSaid : Prop := lumpCoarsestRow.holds Tryz.pinned (OpenSpec.ofChange lumpCoarsestSpec)

/-- ITS FALSE NEIGHBOUR: 'it returns false'. Refute it at one input. -/
def lumpCoarsestWrong : ChangeSpec := { name := "lumpCoarsest", fn := fun _ => fun
  | [d1, d2, d3] => { results := [.lit (.bool false)], args := [d1, d2, d3] }
  | _ => none }
def LumpCoarsestWrongFalsely : Prop := lumpCoarsestRow.holds Tryz.pinned (OpenSpec.ofChange lumpCoarsestWrong)

/-- 'faultlinelaw51.LumpChains': WHATEVER THE INPUT: true; the input reads as it did. -/
def lumpChainsSpec : ChangeSpec := { name := "lumpChains", fn := fun _ => fun
  | [d1, d2] => { results := [.lit (.bool true)], args := [d1, d2] }
  | _ => none }
def lumpChainsRow : OpenClaim := { program := "ytlncafhgmbhocaagreatdoor", sum := "91da04511264844422a2435acc0cead612a6fd82070e28f52f12a876c967a010", func := "faultline/faultlinelaw51.LumpChains", spec := "lumpChains", inPlace := ["internal/abi.NoEscape", "internal/bytealg.IndexByteString", "internal/bytealg.IndexString"], unfollowed := true, recurses := true, named := ["unicode/utf8.first", "unicode/utf8.acceptRanges", "internal/bytealg.MaxLen"], apart := false, laid := [("unicode/utf8.acceptRanges", laid_unicode_utf8_acceptRanges), ("unicode/utf8.first", laid_unicode_utf8_first)] }
def LumpChainsSaid : Prop := lumpChainsRow.holds Tryz.pinned (OpenSpec.ofChange lumpChainsSpec)

/-- ITS FALSE NEIGHBOUR: 'it returns false'. Refute it at one input. -/
def lumpChainsWrong : ChangeSpec := { name := "lumpChains", fn := fun _ => fun
  | [d1, d2] => { results := [.lit (.bool false)], args := [d1, d2] }
  | _ => none }
def LumpChainsWrongFalsely : Prop := lumpChainsRow.holds Tryz.pinned (OpenSpec.ofChange lumpChainsWrong)

/-- 'faultlinelaw53.TransientLumps': WHATEVER THE INPUT: true; the input reads as it did. -/
def transientLumpsSpec : ChangeSpec := { name := "transientLumps", fn := fun _ => fun
  | [d1, d2, d3] => { results := [.lit (.bool true)], args := [d1, d2, d3] }
  | _ => none }
def transientLumpsRow : OpenClaim := { program := "ytlncafhgmbhocaagreatdoor", sum := "91da04511264844422a2435acc0cead612a6fd82070e28f52f12a876c967a010", func := "faultline/faultlinelaw53.TransientLumps", spec := "transientLumps", inPlace := ["internal/abi.NoEscape", "internal/bytealg.IndexByteString", "internal/bytealg.IndexString"], unfollowed := true, recurses := true, named := ["unicode/utf8.first", "unicode/utf8.acceptRanges", "internal/bytealg.MaxLen"], apart := false, laid := [("unicode/utf8.acceptRanges", laid_unicode_utf8_acceptRanges), ("unicode/utf8.first", laid_unicode_utf8_first)] }
def TransientLumpsSaid : Prop := transientLumpsRow.holds Tryz.pinned (OpenSpec.ofChange transientLumpsSpec)

/-- ITS FALSE NEIGHBOUR: 'it returns false'. Refute it at one input. -/
def transientLumpsWrong : ChangeSpec := { name := "transientLumps", fn := fun _ => fun
  | [d1, d2, d3] => { results := [.lit (.bool false)], args := [d1, d2, d3] }
  | _ => none }
def TransientLumpsWrongFalsely : Prop := transientLumpsRow.holds Tryz.pinned (OpenSpec.ofChange transientLumpsWrong)

/- THE SECOND FORM. 'bulk': how many values and letters a reading holds, each counted each time it is reached (what is shared counts as often as it is met; a slice's spare places count too). A statement '..UptoSaid' is the law's where the arguments, and the package variables that the reading takes, are together of bulk at most 1048576: NARROWER than '..Said'. Prove '..Said' where nothing that the law and all that it calls make is longer than what came in: it says more and counts as full. Else prove '..UptoSaid'. A law counts once. -/
mutual
def uptoBulk {H : Type} : DataW H → Nat
  | .lit (.string bytes) => bytes.length + 1
  | .lit _ => 1
  | .nil => 1
  | .ptr d => uptoBulk d + 1
  | .slice elems spare => uptoBulkAll elems + uptoBulkAll spare + 1
  | .agg parts => uptoBulkAll parts + 1
  | .iface _ d => uptoBulk d + 1
  | .map entries => uptoBulkEntries entries + 1
  | .held _ => 1
def uptoBulkAll {H : Type} : List (DataW H) → Nat
  | [] => 0
  | d :: r => uptoBulk d + uptoBulkAll r
def uptoBulkEntries {H : Type} : List (Lit × DataW H) → Nat
  | [] => 0
  | x :: r => uptoBulkEntry x + uptoBulkEntries r
def uptoBulkEntry {H : Type} : Lit × DataW H → Nat
  | (.string bytes, d) => bytes.length + uptoBulk d + 1
  | (_, d) => uptoBulk d + 1
 end
def uptoSmall : (H : Type) → List (DataW H) → Bool := fun _ ds => decide (uptoBulkAll ds ≤ 1048576)
def OpenSpec.upto (s : _root_.Go.ChangeSpec) : _root_.Go.OpenSpec := { _root_.Go.OpenSpec.ofChange s with cond := some uptoSmall }

/-- 'faultlinelaw51.LumpQuotients', WHERE WHAT IT READS IS OF BULK AT MOST 1048576: true; the input reads as it did. -/
def lumpQuotientsUptoRow : OpenClaim := { program := "ytlncafhgmbhocaagreatdoor", sum := "91da04511264844422a2435acc0cead612a6fd82070e28f52f12a876c967a010", func := "faultline/faultlinelaw51.LumpQuotients", spec := "lumpQuotients", inPlace := ["internal/abi.NoEscape", "internal/bytealg.IndexByteString", "internal/bytealg.IndexString"], unfollowed := true, recurses := true, named := ["unicode/utf8.first", "unicode/utf8.acceptRanges", "internal/bytealg.MaxLen"], apart := false, laid := [("unicode/utf8.acceptRanges", laid_unicode_utf8_acceptRanges), ("unicode/utf8.first", laid_unicode_utf8_first)], narrowed := true }
def LumpQuotientsUptoSaid : Prop := lumpQuotientsUptoRow.holds Tryz.pinned (OpenSpec.upto lumpQuotientsSpec)

/-- 'faultlinelaw51.LumpPair', WHERE WHAT IT READS IS OF BULK AT MOST 1048576: true; the input reads as it did. -/
def lumpPairUptoRow : OpenClaim := { program := "ytlncafhgmbhocaagreatdoor", sum := "91da04511264844422a2435acc0cead612a6fd82070e28f52f12a876c967a010", func := "faultline/faultlinelaw51.LumpPair", spec := "lumpPair", inPlace := ["internal/abi.NoEscape", "internal/bytealg.IndexByteString", "internal/bytealg.IndexString"], unfollowed := true, recurses := true, named := ["unicode/utf8.first", "unicode/utf8.acceptRanges", "internal/bytealg.MaxLen"], apart := false, laid := [("unicode/utf8.acceptRanges", laid_unicode_utf8_acceptRanges), ("unicode/utf8.first", laid_unicode_utf8_first)], narrowed := true }
def LumpPairUptoSaid : Prop := lumpPairUptoRow.holds Tryz.pinned (OpenSpec.upto lumpPairSpec)

/-- 'faultlinelaw51.LumpEnds', WHERE WHAT IT READS IS OF BULK AT MOST 1048576: true; the input reads as it did. -/
def lumpEndsUptoRow : OpenClaim := { program := "ytlncafhgmbhocaagreatdoor", sum := "91da04511264844422a2435acc0cead612a6fd82070e28f52f12a876c967a010", func := "faultline/faultlinelaw51.LumpEnds", spec := "lumpEnds", inPlace := ["internal/abi.NoEscape", "internal/bytealg.IndexByteString", "internal/bytealg.IndexString"], unfollowed := true, recurses := true, named := ["unicode/utf8.first", "unicode/utf8.acceptRanges", "internal/bytealg.MaxLen"], apart := false, laid := [("unicode/utf8.acceptRanges", laid_unicode_utf8_acceptRanges), ("unicode/utf8.first", laid_unicode_utf8_first)], narrowed := true }
def LumpEndsUptoSaid : Prop := lumpEndsUptoRow.holds Tryz.pinned (OpenSpec.upto lumpEndsSpec)

/-- 'faultlinelaw51.LumpComputes', WHERE WHAT IT READS IS OF BULK AT MOST 1048576: true; the input reads as it did. -/
def lumpComputesUptoRow : OpenClaim := { program := "ytlncafhgmbhocaagreatdoor", sum := "91da04511264844422a2435acc0cead612a6fd82070e28f52f12a876c967a010", func := "faultline/faultlinelaw51.LumpComputes", spec := "lumpComputes", inPlace := ["internal/abi.NoEscape", "internal/bytealg.IndexByteString", "internal/bytealg.IndexString"], unfollowed := true, recurses := true, named := ["unicode/utf8.first", "unicode/utf8.acceptRanges", "internal/bytealg.MaxLen"], apart := false, laid := [("unicode/utf8.acceptRanges", laid_unicode_utf8_acceptRanges), ("unicode/utf8.first", laid_unicode_utf8_first)], narrowed := true }
def LumpComputesUptoSaid : Prop := lumpComputesUptoRow.holds Tryz.pinned (OpenSpec.upto lumpComputesSpec)

/-- 'faultlinelaw51.LumpCoarsest', WHERE WHAT IT READS IS OF BULK AT MOST 1048576: true; the input reads as it did. -/
def lumpCoarsestUptoRow : OpenClaim := { program := "ytlncafhgmbhocaagreatdoor", sum := "91da04511264844422a2435acc0cead612a6fd82070e28f52f12a876c967a010", func := "faultline/faultlinelaw51.LumpCoarsest", spec := "lumpCoarsest", inPlace := ["internal/abi.NoEscape", "internal/bytealg.IndexByteString", "internal/bytealg.IndexString"], unfollowed := true, recurses := true, named := ["unicode/utf8.first", "unicode/utf8.acceptRanges", "internal/bytealg.MaxLen"], apart := false, laid := [("unicode/utf8.acceptRanges", laid_unicode_utf8_acceptRanges), ("unicode/utf8.first", laid_unicode_utf8_first)], narrowed := true }
def LumpCoarsestUptoSaid : Prop := lumpCoarsestUptoRow.holds Tryz.pinned (OpenSpec.upto lumpCoarsestSpec)

/-- 'faultlinelaw51.LumpChains', WHERE WHAT IT READS IS OF BULK AT MOST 1048576: true; the input reads as it did. -/
def lumpChainsUptoRow : OpenClaim := { program := "ytlncafhgmbhocaagreatdoor", sum := "91da04511264844422a2435acc0cead612a6fd82070e28f52f12a876c967a010", func := "faultline/faultlinelaw51.LumpChains", spec := "lumpChains", inPlace := ["internal/abi.NoEscape", "internal/bytealg.IndexByteString", "internal/bytealg.IndexString"], unfollowed := true, recurses := true, named := ["unicode/utf8.first", "unicode/utf8.acceptRanges", "internal/bytealg.MaxLen"], apart := false, laid := [("unicode/utf8.acceptRanges", laid_unicode_utf8_acceptRanges), ("unicode/utf8.first", laid_unicode_utf8_first)], narrowed := true }
def LumpChainsUptoSaid : Prop := lumpChainsUptoRow.holds Tryz.pinned (OpenSpec.upto lumpChainsSpec)

/-- 'faultlinelaw53.TransientLumps', WHERE WHAT IT READS IS OF BULK AT MOST 1048576: true; the input reads as it did. -/
def transientLumpsUptoRow : OpenClaim := { program := "ytlncafhgmbhocaagreatdoor", sum := "91da04511264844422a2435acc0cead612a6fd82070e28f52f12a876c967a010", func := "faultline/faultlinelaw53.TransientLumps", spec := "transientLumps", inPlace := ["internal/abi.NoEscape", "internal/bytealg.IndexByteString", "internal/bytealg.IndexString"], unfollowed := true, recurses := true, named := ["unicode/utf8.first", "unicode/utf8.acceptRanges", "internal/bytealg.MaxLen"], apart := false, laid := [("unicode/utf8.acceptRanges", laid_unicode_utf8_acceptRanges), ("unicode/utf8.first", laid_unicode_utf8_first)], narrowed := true }
def TransientLumpsUptoSaid : Prop := transientLumpsUptoRow.holds Tryz.pinned (OpenSpec.upto transientLumpsSpec)

end Rows
end Go.Proofs.YtlncafhgmbhocaaGreatDoor
