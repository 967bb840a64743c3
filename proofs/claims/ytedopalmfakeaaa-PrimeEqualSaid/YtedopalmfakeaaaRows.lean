/-
  No cell of these rows narrows 'for every input' (looked for: loops, veiled, ifaces, maps, wideKeys, modest, calm, conditions, laid).
  DERIVED. THE GIVEN ROWS OF THIS SEAT. 15 by the template 'for every input the law returns true; each argument reads behind the call as it read before'; 0 by the template 'total and deterministic' (their statements: YtedopalmfakeaaaTotals.lean).
  GIVEN WITH THE SEED: the statements are not yours to turn. If you find one false, say at which input.
  Laid BY PROGRAM, IN A SANDBOX (cutbox-rows.mjs): the forced cells as the released guide's own fill.sh prints them over the translation fccafe9d45217192… (all of the seat's roots in one cut). By AI agents, Wed Nov 11 2026. No macro, syntax, notation, axiom, sorry.
-/
import Derived.Test.YtedopalmfakeaaaChecked
import GoSem.Claim
import GoSem.ClaimJoined
import GoSem.ClaimMapViews
import Derived.JoinedTies
import Derived.KernelRfl
namespace Go.Proofs.Ytedopalmfakeaaa
/- THE CELL 'sum', in the pinned program and in every row, IS THE sha256 OF THE DUMP (.gsa) THAT YtedopalmfakeaaaProg.lean LOADS. Nothing in Lean hashes anything: it is a label: what it is worth is what the hold of that sum in a sandbox is worth. -/
noncomputable def Try.pinned : Pinned := { name := "ytedopalmfakeaaa", sum := "fccafe9d45217192edd26eedd7fa4122870d6408e25ae9b0f6a7116fe4d27c24", checked := Try.checked }
namespace Rows
def none {H : Type} : Left H := { results := [], args := [] }

/-- 'faultlinelaw12.CubeChecks': WHATEVER THE INPUT: true; the input reads as it did. -/
def cubeChecksSpec : ChangeSpec := { name := "cubeChecks", fn := fun _ => fun
  | [d1, d2] => { results := [.lit (.bool true)], args := [d1, d2] }
  | _ => none }
def cubeChecksRow : OpenClaim := { program := "ytedopalmfakeaaa", sum := "fccafe9d45217192edd26eedd7fa4122870d6408e25ae9b0f6a7116fe4d27c24", func := "faultline/faultlinelaw12.CubeChecks", spec := "cubeChecks", apart := false }
def CubeChecksSaid : Prop := cubeChecksRow.holds Try.pinned (OpenSpec.ofChange cubeChecksSpec)

/-- ITS FALSE NEIGHBOUR: 'it returns false'. Refute it at one input. -/
def cubeChecksWrong : ChangeSpec := { name := "cubeChecks", fn := fun _ => fun
  | [d1, d2] => { results := [.lit (.bool false)], args := [d1, d2] }
  | _ => none }
def CubeChecksWrongFalsely : Prop := cubeChecksRow.holds Try.pinned (OpenSpec.ofChange cubeChecksWrong)

/-- 'faultlinelaw12.CubeSplits': WHATEVER THE INPUT: true; the input reads as it did. -/
def cubeSplitsSpec : ChangeSpec := { name := "cubeSplits", fn := fun _ => fun
  | [d1, d2, d3] => { results := [.lit (.bool true)], args := [d1, d2, d3] }
  | _ => none }
def cubeSplitsRow : OpenClaim := { program := "ytedopalmfakeaaa", sum := "fccafe9d45217192edd26eedd7fa4122870d6408e25ae9b0f6a7116fe4d27c24", func := "faultline/faultlinelaw12.CubeSplits", spec := "cubeSplits", apart := false }
def CubeSplitsSaid : Prop := cubeSplitsRow.holds Try.pinned (OpenSpec.ofChange cubeSplitsSpec)

/-- ITS FALSE NEIGHBOUR: 'it returns false'. Refute it at one input. -/
def cubeSplitsWrong : ChangeSpec := { name := "cubeSplits", fn := fun _ => fun
  | [d1, d2, d3] => { results := [.lit (.bool false)], args := [d1, d2, d3] }
  | _ => none }
def CubeSplitsWrongFalsely : Prop := cubeSplitsRow.holds Try.pinned (OpenSpec.ofChange cubeSplitsWrong)

/-- 'faultlinelaw12.CubePairs': WHATEVER THE INPUT: true; the input reads as it did. -/
def cubePairsSpec : ChangeSpec := { name := "cubePairs", fn := fun _ => fun
  | [d1, d2] => { results := [.lit (.bool true)], args := [d1, d2] }
  | _ => none }
def cubePairsRow : OpenClaim := { program := "ytedopalmfakeaaa", sum := "fccafe9d45217192edd26eedd7fa4122870d6408e25ae9b0f6a7116fe4d27c24", func := "faultline/faultlinelaw12.CubePairs", spec := "cubePairs", apart := false }
def CubePairsSaid : Prop := cubePairsRow.holds Try.pinned (OpenSpec.ofChange cubePairsSpec)

/-- ITS FALSE NEIGHBOUR: 'it returns false'. Refute it at one input. -/
def cubePairsWrong : ChangeSpec := { name := "cubePairs", fn := fun _ => fun
  | [d1, d2] => { results := [.lit (.bool false)], args := [d1, d2] }
  | _ => none }
def CubePairsWrongFalsely : Prop := cubePairsRow.holds Try.pinned (OpenSpec.ofChange cubePairsWrong)

/-- 'faultlinelaw12.CubeAgrees': WHATEVER THE INPUT: true; the input reads as it did. -/
def cubeAgreesSpec : ChangeSpec := { name := "cubeAgrees", fn := fun _ => fun
  | [d1, d2, d3] => { results := [.lit (.bool true)], args := [d1, d2, d3] }
  | _ => none }
def cubeAgreesRow : OpenClaim := { program := "ytedopalmfakeaaa", sum := "fccafe9d45217192edd26eedd7fa4122870d6408e25ae9b0f6a7116fe4d27c24", func := "faultline/faultlinelaw12.CubeAgrees", spec := "cubeAgrees", apart := false }
def CubeAgreesSaid : Prop := cubeAgreesRow.holds Try.pinned (OpenSpec.ofChange cubeAgreesSpec)

/-- ITS FALSE NEIGHBOUR: 'it returns false'. Refute it at one input. -/
def cubeAgreesWrong : ChangeSpec := { name := "cubeAgrees", fn := fun _ => fun
  | [d1, d2, d3] => { results := [.lit (.bool false)], args := [d1, d2, d3] }
  | _ => none }
def CubeAgreesWrongFalsely : Prop := cubeAgreesRow.holds Try.pinned (OpenSpec.ofChange cubeAgreesWrong)

/-- 'faultlinelaw12.CubeCovers': WHATEVER THE INPUT: true; the input reads as it did. -/
def cubeCoversSpec : ChangeSpec := { name := "cubeCovers", fn := fun _ => fun
  | [d1, d2, d3] => { results := [.lit (.bool true)], args := [d1, d2, d3] }
  | _ => none }
def cubeCoversRow : OpenClaim := { program := "ytedopalmfakeaaa", sum := "fccafe9d45217192edd26eedd7fa4122870d6408e25ae9b0f6a7116fe4d27c24", func := "faultline/faultlinelaw12.CubeCovers", spec := "cubeCovers", recurses := true, apart := false }
def CubeCoversSaid : Prop := cubeCoversRow.holds Try.pinned (OpenSpec.ofChange cubeCoversSpec)

/-- ITS FALSE NEIGHBOUR: 'it returns false'. Refute it at one input. -/
def cubeCoversWrong : ChangeSpec := { name := "cubeCovers", fn := fun _ => fun
  | [d1, d2, d3] => { results := [.lit (.bool false)], args := [d1, d2, d3] }
  | _ => none }
def CubeCoversWrongFalsely : Prop := cubeCoversRow.holds Try.pinned (OpenSpec.ofChange cubeCoversWrong)

/-- 'faultlinelaw12.CubeCounts': WHATEVER THE INPUT: true; the input reads as it did. -/
def cubeCountsSpec : ChangeSpec := { name := "cubeCounts", fn := fun _ => fun
  | [d1, d2] => { results := [.lit (.bool true)], args := [d1, d2] }
  | _ => none }
def cubeCountsRow : OpenClaim := { program := "ytedopalmfakeaaa", sum := "fccafe9d45217192edd26eedd7fa4122870d6408e25ae9b0f6a7116fe4d27c24", func := "faultline/faultlinelaw12.CubeCounts", spec := "cubeCounts", recurses := true, apart := false }
def CubeCountsSaid : Prop := cubeCountsRow.holds Try.pinned (OpenSpec.ofChange cubeCountsSpec)

/-- ITS FALSE NEIGHBOUR: 'it returns false'. Refute it at one input. -/
def cubeCountsWrong : ChangeSpec := { name := "cubeCounts", fn := fun _ => fun
  | [d1, d2] => { results := [.lit (.bool false)], args := [d1, d2] }
  | _ => none }
def CubeCountsWrongFalsely : Prop := cubeCountsRow.holds Try.pinned (OpenSpec.ofChange cubeCountsWrong)

/-- 'faultlinelaw12.CubeLists': WHATEVER THE INPUT: true; the input reads as it did. -/
def cubeListsSpec : ChangeSpec := { name := "cubeLists", fn := fun _ => fun
  | [d] => { results := [.lit (.bool true)], args := [d] }
  | _ => none }
def cubeListsRow : OpenClaim := { program := "ytedopalmfakeaaa", sum := "fccafe9d45217192edd26eedd7fa4122870d6408e25ae9b0f6a7116fe4d27c24", func := "faultline/faultlinelaw12.CubeLists", spec := "cubeLists", unfollowed := true, recurses := true, apart := false }
def CubeListsSaid : Prop := cubeListsRow.holds Try.pinned (OpenSpec.ofChange cubeListsSpec)

/-- ITS FALSE NEIGHBOUR: 'it returns false'. Refute it at one input. -/
def cubeListsWrong : ChangeSpec := { name := "cubeLists", fn := fun _ => fun
  | [d] => { results := [.lit (.bool false)], args := [d] }
  | _ => none }
def CubeListsWrongFalsely : Prop := cubeListsRow.holds Try.pinned (OpenSpec.ofChange cubeListsWrong)

/-- 'faultlinelaw12.CubeKeeps': WHATEVER THE INPUT: true; the input reads as it did. -/
def cubeKeepsSpec : ChangeSpec := { name := "cubeKeeps", fn := fun _ => fun
  | [d1, d2] => { results := [.lit (.bool true)], args := [d1, d2] }
  | _ => none }
def cubeKeepsRow : OpenClaim := { program := "ytedopalmfakeaaa", sum := "fccafe9d45217192edd26eedd7fa4122870d6408e25ae9b0f6a7116fe4d27c24", func := "faultline/faultlinelaw12.CubeKeeps", spec := "cubeKeeps", unfollowed := true, recurses := true, apart := false }
def CubeKeepsSaid : Prop := cubeKeepsRow.holds Try.pinned (OpenSpec.ofChange cubeKeepsSpec)

/-- ITS FALSE NEIGHBOUR: 'it returns false'. Refute it at one input. -/
def cubeKeepsWrong : ChangeSpec := { name := "cubeKeeps", fn := fun _ => fun
  | [d1, d2] => { results := [.lit (.bool false)], args := [d1, d2] }
  | _ => none }
def CubeKeepsWrongFalsely : Prop := cubeKeepsRow.holds Try.pinned (OpenSpec.ofChange cubeKeepsWrong)

/-- 'faultlinelaw13.PrimeHolds': WHATEVER THE INPUT: true; the input reads as it did. -/
def primeHoldsSpec : ChangeSpec := { name := "primeHolds", fn := fun _ => fun
  | [d1, d2] => { results := [.lit (.bool true)], args := [d1, d2] }
  | _ => none }
def primeHoldsRow : OpenClaim := { program := "ytedopalmfakeaaa", sum := "fccafe9d45217192edd26eedd7fa4122870d6408e25ae9b0f6a7116fe4d27c24", func := "faultline/faultlinelaw13.PrimeHolds", spec := "primeHolds", unfollowed := true, recurses := true, apart := false }
def PrimeHoldsSaid : Prop := primeHoldsRow.holds Try.pinned (OpenSpec.ofChange primeHoldsSpec)

/-- ITS FALSE NEIGHBOUR: 'it returns false'. Refute it at one input. -/
def primeHoldsWrong : ChangeSpec := { name := "primeHolds", fn := fun _ => fun
  | [d1, d2] => { results := [.lit (.bool false)], args := [d1, d2] }
  | _ => none }
def PrimeHoldsWrongFalsely : Prop := primeHoldsRow.holds Try.pinned (OpenSpec.ofChange primeHoldsWrong)

/-- 'faultlinelaw13.PrimeCoherent': WHATEVER THE INPUT: true; the input reads as it did. -/
def primeCoherentSpec : ChangeSpec := { name := "primeCoherent", fn := fun _ => fun
  | [d] => { results := [.lit (.bool true)], args := [d] }
  | _ => none }
def primeCoherentRow : OpenClaim := { program := "ytedopalmfakeaaa", sum := "fccafe9d45217192edd26eedd7fa4122870d6408e25ae9b0f6a7116fe4d27c24", func := "faultline/faultlinelaw13.PrimeCoherent", spec := "primeCoherent", unfollowed := true, recurses := true, apart := false }
def PrimeCoherentSaid : Prop := primeCoherentRow.holds Try.pinned (OpenSpec.ofChange primeCoherentSpec)

/-- ITS FALSE NEIGHBOUR: 'it returns false'. Refute it at one input. -/
def primeCoherentWrong : ChangeSpec := { name := "primeCoherent", fn := fun _ => fun
  | [d] => { results := [.lit (.bool false)], args := [d] }
  | _ => none }
def PrimeCoherentWrongFalsely : Prop := primeCoherentRow.holds Try.pinned (OpenSpec.ofChange primeCoherentWrong)

/-- 'faultlinelaw13.PrimeAll': WHATEVER THE INPUT: true; the input reads as it did. -/
def primeAllSpec : ChangeSpec := { name := "primeAll", fn := fun _ => fun
  | [d] => { results := [.lit (.bool true)], args := [d] }
  | _ => none }
def primeAllRow : OpenClaim := { program := "ytedopalmfakeaaa", sum := "fccafe9d45217192edd26eedd7fa4122870d6408e25ae9b0f6a7116fe4d27c24", func := "faultline/faultlinelaw13.PrimeAll", spec := "primeAll", unfollowed := true, recurses := true, apart := false }
def PrimeAllSaid : Prop := primeAllRow.holds Try.pinned (OpenSpec.ofChange primeAllSpec)

/-- ITS FALSE NEIGHBOUR: 'it returns false'. Refute it at one input. -/
def primeAllWrong : ChangeSpec := { name := "primeAll", fn := fun _ => fun
  | [d] => { results := [.lit (.bool false)], args := [d] }
  | _ => none }
def PrimeAllWrongFalsely : Prop := primeAllRow.holds Try.pinned (OpenSpec.ofChange primeAllWrong)

/-- 'faultlinelaw13.PrimeEqual': WHATEVER THE INPUT: true; the input reads as it did. -/
def primeEqualSpec : ChangeSpec := { name := "primeEqual", fn := fun _ => fun
  | [d1, d2] => { results := [.lit (.bool true)], args := [d1, d2] }
  | _ => none }
def primeEqualRow : OpenClaim := { program := "ytedopalmfakeaaa", sum := "fccafe9d45217192edd26eedd7fa4122870d6408e25ae9b0f6a7116fe4d27c24", func := "faultline/faultlinelaw13.PrimeEqual", spec := "primeEqual", unfollowed := true, recurses := true, apart := false }
def PrimeEqualSaid : Prop := primeEqualRow.holds Try.pinned (OpenSpec.ofChange primeEqualSpec)

/-- ITS FALSE NEIGHBOUR: 'it returns false'. Refute it at one input. -/
def primeEqualWrong : ChangeSpec := { name := "primeEqual", fn := fun _ => fun
  | [d1, d2] => { results := [.lit (.bool false)], args := [d1, d2] }
  | _ => none }
def PrimeEqualWrongFalsely : Prop := primeEqualRow.holds Try.pinned (OpenSpec.ofChange primeEqualWrong)

/-- 'faultlinelaw13.PrimeImplicants': WHATEVER THE INPUT: true; the input reads as it did. -/
def primeImplicantsSpec : ChangeSpec := { name := "primeImplicants", fn := fun _ => fun
  | [d1, d2] => { results := [.lit (.bool true)], args := [d1, d2] }
  | _ => none }
def primeImplicantsRow : OpenClaim := { program := "ytedopalmfakeaaa", sum := "fccafe9d45217192edd26eedd7fa4122870d6408e25ae9b0f6a7116fe4d27c24", func := "faultline/faultlinelaw13.PrimeImplicants", spec := "primeImplicants", unfollowed := true, recurses := true, apart := false }
def PrimeImplicantsSaid : Prop := primeImplicantsRow.holds Try.pinned (OpenSpec.ofChange primeImplicantsSpec)

/-- ITS FALSE NEIGHBOUR: 'it returns false'. Refute it at one input. -/
def primeImplicantsWrong : ChangeSpec := { name := "primeImplicants", fn := fun _ => fun
  | [d1, d2] => { results := [.lit (.bool false)], args := [d1, d2] }
  | _ => none }
def PrimeImplicantsWrongFalsely : Prop := primeImplicantsRow.holds Try.pinned (OpenSpec.ofChange primeImplicantsWrong)

/-- 'faultlinelaw13.PrimeImplied': WHATEVER THE INPUT: true; the input reads as it did. -/
def primeImpliedSpec : ChangeSpec := { name := "primeImplied", fn := fun _ => fun
  | [d1, d2] => { results := [.lit (.bool true)], args := [d1, d2] }
  | _ => none }
def primeImpliedRow : OpenClaim := { program := "ytedopalmfakeaaa", sum := "fccafe9d45217192edd26eedd7fa4122870d6408e25ae9b0f6a7116fe4d27c24", func := "faultline/faultlinelaw13.PrimeImplied", spec := "primeImplied", unfollowed := true, recurses := true, apart := false }
def PrimeImpliedSaid : Prop := primeImpliedRow.holds Try.pinned (OpenSpec.ofChange primeImpliedSpec)

/-- ITS FALSE NEIGHBOUR: 'it returns false'. Refute it at one input. -/
def primeImpliedWrong : ChangeSpec := { name := "primeImplied", fn := fun _ => fun
  | [d1, d2] => { results := [.lit (.bool false)], args := [d1, d2] }
  | _ => none }
def PrimeImpliedWrongFalsely : Prop := primeImpliedRow.holds Try.pinned (OpenSpec.ofChange primeImpliedWrong)

/-- 'faultlinelaw13.PrimeNeeded': WHATEVER THE INPUT: true; the input reads as it did. -/
def primeNeededSpec : ChangeSpec := { name := "primeNeeded", fn := fun _ => fun
  | [d] => { results := [.lit (.bool true)], args := [d] }
  | _ => none }
def primeNeededRow : OpenClaim := { program := "ytedopalmfakeaaa", sum := "fccafe9d45217192edd26eedd7fa4122870d6408e25ae9b0f6a7116fe4d27c24", func := "faultline/faultlinelaw13.PrimeNeeded", spec := "primeNeeded", unfollowed := true, recurses := true, apart := false }
def PrimeNeededSaid : Prop := primeNeededRow.holds Try.pinned (OpenSpec.ofChange primeNeededSpec)

/-- ITS FALSE NEIGHBOUR: 'it returns false'. Refute it at one input. -/
def primeNeededWrong : ChangeSpec := { name := "primeNeeded", fn := fun _ => fun
  | [d] => { results := [.lit (.bool false)], args := [d] }
  | _ => none }
def PrimeNeededWrongFalsely : Prop := primeNeededRow.holds Try.pinned (OpenSpec.ofChange primeNeededWrong)

/- THE SECOND FORM. 'bulk': how many values and letters a reading holds, each counted each time it is reached (what is shared counts as often as it is met; a slice's spare places count too). A statement '..UptoSaid' is the law's where the arguments, and the package variables that the reading takes, are together of bulk at most 1048576: NARROWER than '..Said'. Prove '..Said' where nothing that the law and all that it calls make is longer than what came in: it says more and counts as full. Else prove '..UptoSaid'. A law counts once. -/
mutual
def uptoBulk {H : Type} : DataW H → Nat
  | .lit (.string bytes) => bytes.length + 1
  | .lit _ => 1
  | .nil => 1
  | .ptr d => uptoBulk d + 1
  | .slice elems spare => uptoBulkAll elems + uptoBulkAll spare + 1
  | .agg parts => uptoBulkAll parts + 1
  | .iface _ d => uptoBulk d + 1
  | .map entries => uptoBulkEntries entries + 1
  | .held _ => 1
def uptoBulkAll {H : Type} : List (DataW H) → Nat
  | [] => 0
  | d :: r => uptoBulk d + uptoBulkAll r
def uptoBulkEntries {H : Type} : List (Lit × DataW H) → Nat
  | [] => 0
  | x :: r => uptoBulkEntry x + uptoBulkEntries r
def uptoBulkEntry {H : Type} : Lit × DataW H → Nat
  | (.string bytes, d) => bytes.length + uptoBulk d + 1
  | (_, d) => uptoBulk d + 1
 end
def uptoSmall : (H : Type) → List (DataW H) → Bool := fun _ ds => decide (uptoBulkAll ds ≤ 1048576)
def OpenSpec.upto (s : _root_.Go.ChangeSpec) : _root_.Go.OpenSpec := { _root_.Go.OpenSpec.ofChange s with cond := some uptoSmall }

/-- 'faultlinelaw12.CubeChecks', WHERE WHAT IT READS IS OF BULK AT MOST 1048576: true; the input reads as it did. -/
def cubeChecksUptoRow : OpenClaim := { program := "ytedopalmfakeaaa", sum := "fccafe9d45217192edd26eedd7fa4122870d6408e25ae9b0f6a7116fe4d27c24", func := "faultline/faultlinelaw12.CubeChecks", spec := "cubeChecks", apart := false, narrowed := true }
def CubeChecksUptoSaid : Prop := cubeChecksUptoRow.holds Try.pinned (OpenSpec.upto cubeChecksSpec)

/-- 'faultlinelaw12.CubeSplits', WHERE WHAT IT READS IS OF BULK AT MOST 1048576: true; the input reads as it did. -/
def cubeSplitsUptoRow : OpenClaim := { program := "ytedopalmfakeaaa", sum := "fccafe9d45217192edd26eedd7fa4122870d6408e25ae9b0f6a7116fe4d27c24", func := "faultline/faultlinelaw12.CubeSplits", spec := "cubeSplits", apart := false, narrowed := true }
def CubeSplitsUptoSaid : Prop := cubeSplitsUptoRow.holds Try.pinned (OpenSpec.upto cubeSplitsSpec)

/-- 'faultlinelaw12.CubePairs', WHERE WHAT IT READS IS OF BULK AT MOST 1048576: true; the input reads as it did. -/
def cubePairsUptoRow : OpenClaim := { program := "ytedopalmfakeaaa", sum := "fccafe9d45217192edd26eedd7fa4122870d6408e25ae9b0f6a7116fe4d27c24", func := "faultline/faultlinelaw12.CubePairs", spec := "cubePairs", apart := false, narrowed := true }
def CubePairsUptoSaid : Prop := cubePairsUptoRow.holds Try.pinned (OpenSpec.upto cubePairsSpec)

/-- 'faultlinelaw12.CubeAgrees', WHERE WHAT IT READS IS OF BULK AT MOST 1048576: true; the input reads as it did. -/
def cubeAgreesUptoRow : OpenClaim := { program := "ytedopalmfakeaaa", sum := "fccafe9d45217192edd26eedd7fa4122870d6408e25ae9b0f6a7116fe4d27c24", func := "faultline/faultlinelaw12.CubeAgrees", spec := "cubeAgrees", apart := false, narrowed := true }
def CubeAgreesUptoSaid : Prop := cubeAgreesUptoRow.holds Try.pinned (OpenSpec.upto cubeAgreesSpec)

/-- 'faultlinelaw12.CubeCovers', WHERE WHAT IT READS IS OF BULK AT MOST 1048576: true; the input reads as it did. -/
def cubeCoversUptoRow : OpenClaim := { program := "ytedopalmfakeaaa", sum := "fccafe9d45217192edd26eedd7fa4122870d6408e25ae9b0f6a7116fe4d27c24", func := "faultline/faultlinelaw12.CubeCovers", spec := "cubeCovers", recurses := true, apart := false, narrowed := true }
def CubeCoversUptoSaid : Prop := cubeCoversUptoRow.holds Try.pinned (OpenSpec.upto cubeCoversSpec)

/-- 'faultlinelaw12.CubeCounts', WHERE WHAT IT READS IS OF BULK AT MOST 1048576: true; the input reads as it did. -/
def cubeCountsUptoRow : OpenClaim := { program := "ytedopalmfakeaaa", sum := "fccafe9d45217192edd26eedd7fa4122870d6408e25ae9b0f6a7116fe4d27c24", func := "faultline/faultlinelaw12.CubeCounts", spec := "cubeCounts", recurses := true, apart := false, narrowed := true }
def CubeCountsUptoSaid : Prop := cubeCountsUptoRow.holds Try.pinned (OpenSpec.upto cubeCountsSpec)

/-- 'faultlinelaw12.CubeLists', WHERE WHAT IT READS IS OF BULK AT MOST 1048576: true; the input reads as it did. -/
def cubeListsUptoRow : OpenClaim := { program := "ytedopalmfakeaaa", sum := "fccafe9d45217192edd26eedd7fa4122870d6408e25ae9b0f6a7116fe4d27c24", func := "faultline/faultlinelaw12.CubeLists", spec := "cubeLists", unfollowed := true, recurses := true, apart := false, narrowed := true }
def CubeListsUptoSaid : Prop := cubeListsUptoRow.holds Try.pinned (OpenSpec.upto cubeListsSpec)

/-- 'faultlinelaw12.CubeKeeps', WHERE WHAT IT READS IS OF BULK AT MOST 1048576: true; the input reads as it did. -/
def cubeKeepsUptoRow : OpenClaim := { program := "ytedopalmfakeaaa", sum := "fccafe9d45217192edd26eedd7fa4122870d6408e25ae9b0f6a7116fe4d27c24", func := "faultline/faultlinelaw12.CubeKeeps", spec := "cubeKeeps", unfollowed := true, recurses := true, apart := false, narrowed := true }
def CubeKeepsUptoSaid : Prop := cubeKeepsUptoRow.holds Try.pinned (OpenSpec.upto cubeKeepsSpec)

/-- 'faultlinelaw13.PrimeHolds', WHERE WHAT IT READS IS OF BULK AT MOST 1048576: true; the input reads as it did. -/
def primeHoldsUptoRow : OpenClaim := { program := "ytedopalmfakeaaa", sum := "fccafe9d45217192edd26eedd7fa4122870d6408e25ae9b0f6a7116fe4d27c24", func := "faultline/faultlinelaw13.PrimeHolds", spec := "primeHolds", unfollowed := true, recurses := true, apart := false, narrowed := true }
def PrimeHoldsUptoSaid : Prop := primeHoldsUptoRow.holds Try.pinned (OpenSpec.upto primeHoldsSpec)

/-- 'faultlinelaw13.PrimeCoherent', WHERE WHAT IT READS IS OF BULK AT MOST 1048576: true; the input reads as it did. -/
def primeCoherentUptoRow : OpenClaim := { program := "ytedopalmfakeaaa", sum := "fccafe9d45217192edd26eedd7fa4122870d6408e25ae9b0f6a7116fe4d27c24", func := "faultline/faultlinelaw13.PrimeCoherent", spec := "primeCoherent", unfollowed := true, recurses := true, apart := false, narrowed := true }
def PrimeCoherentUptoSaid : Prop := primeCoherentUptoRow.holds Try.pinned (OpenSpec.upto primeCoherentSpec)

/-- 'faultlinelaw13.PrimeAll', WHERE WHAT IT READS IS OF BULK AT MOST 1048576: true; the input reads as it did. -/
def primeAllUptoRow : OpenClaim := { program := "ytedopalmfakeaaa", sum := "fccafe9d45217192edd26eedd7fa4122870d6408e25ae9b0f6a7116fe4d27c24", func := "faultline/faultlinelaw13.PrimeAll", spec := "primeAll", unfollowed := true, recurses := true, apart := false, narrowed := true }
def PrimeAllUptoSaid : Prop := primeAllUptoRow.holds Try.pinned (OpenSpec.upto primeAllSpec)

/-- 'faultlinelaw13.PrimeEqual', WHERE WHAT IT READS IS OF BULK AT MOST 1048576: true; the input reads as it did. -/
def primeEqualUptoRow : OpenClaim := { program := "ytedopalmfakeaaa", sum := "fccafe9d45217192edd26eedd7fa4122870d6408e25ae9b0f6a7116fe4d27c24", func := "faultline/faultlinelaw13.PrimeEqual", spec := "primeEqual", unfollowed := true, recurses := true, apart := false, narrowed := true }
def PrimeEqualUptoSaid : Prop := primeEqualUptoRow.holds Try.pinned (OpenSpec.upto primeEqualSpec)

/-- 'faultlinelaw13.PrimeImplicants', WHERE WHAT IT READS IS OF BULK AT MOST 1048576: true; the input reads as it did. -/
def primeImplicantsUptoRow : OpenClaim := { program := "ytedopalmfakeaaa", sum := "fccafe9d45217192edd26eedd7fa4122870d6408e25ae9b0f6a7116fe4d27c24", func := "faultline/faultlinelaw13.PrimeImplicants", spec := "primeImplicants", unfollowed := true, recurses := true, apart := false, narrowed := true }
def PrimeImplicantsUptoSaid : Prop := primeImplicantsUptoRow.holds Try.pinned (OpenSpec.upto primeImplicantsSpec)

/-- 'faultlinelaw13.PrimeImplied', WHERE WHAT IT READS IS OF BULK AT MOST 1048576: true; the input reads as it did. -/
def primeImpliedUptoRow : OpenClaim := { program := "ytedopalmfakeaaa", sum := "fccafe9d45217192edd26eedd7fa4122870d6408e25ae9b0f6a7116fe4d27c24", func := "faultline/faultlinelaw13.PrimeImplied", spec := "primeImplied", unfollowed := true, recurses := true, apart := false, narrowed := true }
def PrimeImpliedUptoSaid : Prop := primeImpliedUptoRow.holds Try.pinned (OpenSpec.upto primeImpliedSpec)

/-- 'faultlinelaw13.PrimeNeeded', WHERE WHAT IT READS IS OF BULK AT MOST 1048576: true; the input reads as it did. -/
def primeNeededUptoRow : OpenClaim := { program := "ytedopalmfakeaaa", sum := "fccafe9d45217192edd26eedd7fa4122870d6408e25ae9b0f6a7116fe4d27c24", func := "faultline/faultlinelaw13.PrimeNeeded", spec := "primeNeeded", unfollowed := true, recurses := true, apart := false, narrowed := true }
def PrimeNeededUptoSaid : Prop := primeNeededUptoRow.holds Try.pinned (OpenSpec.upto primeNeededSpec)

end Rows
end Go.Proofs.Ytedopalmfakeaaa
