/- Contracts of functions and lemmas, used by the proofs of the given statements. No condition beyond those that each lemma names. -/
import Derived.Test.YtglpknhcneggeaaGreatDoorJBase
namespace Go.Proofs.YtglpknhcneggeaaGreatDoor
set_option linter.unusedVariables false
set_option linter.unusedSimpArgs false
/-! ## errors by their numbers -/
def errM (c : Int) : Value := if c = 0 then .nilIface else .iface 51 (.int .i64 c)
theorem errM_0 : errM 0 = .nilIface := rfl
theorem errM_n {c : Int} (h : c ≠ 0) : errM c = .iface 51 (.int .i64 c) := by simp [errM, h]
end Go.Proofs.YtglpknhcneggeaaGreatDoor
