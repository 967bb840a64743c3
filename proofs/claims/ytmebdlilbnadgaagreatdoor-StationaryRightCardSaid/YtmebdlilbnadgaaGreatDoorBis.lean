/- Contracts of functions and lemmas, used by the proofs of the given statements. No condition beyond those that each lemma names. -/
import Derived.Test.YtmebdlilbnadgaaGreatDoorJBase
namespace Go.Proofs.YtmebdlilbnadgaaGreatDoor
open Go.RowKit
set_option linter.unusedSimpArgs false
set_option linter.unusedVariables false
set_option maxRecDepth 20000
/-! ## faultlinebase: Is -/
theorem bis_eq (n : Int) (w : World) : Calls Tryz.prog 14 #[.iface 41 (.int .i64 n), .int .i64 n] w fun e w' => e = .returned (.bool true) ∧ w = w' := by
  have hta : ∀ (x : Value) (w : World), (Instr.typeAssert (.iface 41 x) 37 41 true).run Tryz.prog w = .ok (.tuple #[x, .bool true]) w := fun _ _ => by kernel_rfl
  go_enter Tryz.func14, Tryz.ntmps14
  go_wp2
  go_ret
  exact ⟨rfl, rfl⟩
end Go.Proofs.YtmebdlilbnadgaaGreatDoor
