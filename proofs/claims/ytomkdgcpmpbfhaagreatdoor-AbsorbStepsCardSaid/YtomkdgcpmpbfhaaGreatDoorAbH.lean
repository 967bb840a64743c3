/- Contracts of functions and lemmas, used by the proofs of the given statements. No condition beyond those that each lemma names. -/
import Derived.Test.YtomkdgcpmpbfhaaGreatDoorAbE
import Derived.Test.YtomkdgcpmpbfhaaGreatDoorJLinY
import Derived.Test.YtomkdgcpmpbfhaaGreatDoorLinX
namespace Go.Proofs.YtomkdgcpmpbfhaaGreatDoor
open Go.RowKit
set_option linter.unusedSimpArgs false
set_option linter.unusedVariables false
set_option maxRecDepth 20000
attribute [local irreducible] nv wp win plainB validR valR canR mvE chkM codeC spr sprN chg cnt gj
/-! ## reference: Live, Times, Visits -/
section
variable {w : World} {AM AD : Option Addr} {cm cd : Nat} {c : Chn}
theorem outN_0 {n : Nat} : outN' 0 n = n := by unfold outN'; rw [if_pos rfl]
end
end Go.Proofs.YtomkdgcpmpbfhaaGreatDoor
