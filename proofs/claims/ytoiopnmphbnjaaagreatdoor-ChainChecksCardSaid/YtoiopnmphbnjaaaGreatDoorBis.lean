/- Contracts of functions and lemmas, used by the proofs of the given statements. No condition beyond those that each lemma names. -/
import Derived.Test.YtoiopnmphbnjaaaGreatDoorJBase
namespace Go.Proofs.YtoiopnmphbnjaaaGreatDoor
open Go.RowKit
set_option linter.unusedSimpArgs false
set_option linter.unusedVariables false
set_option maxRecDepth 20000
/-! ## faultlinebase: Is -/
theorem bis_eq (n : Int) (w : World) : Calls Tryz.prog 36 #[.iface 80 (.int .i64 n), .int .i64 n] w fun e w' => e = .returned (.bool true) ∧ w = w' := by
  have hta : ∀ (x : Value) (w : World), (Instr.typeAssert (.iface 80 x) 35 80 true).run Tryz.prog w = .ok (.tuple #[x, .bool true]) w := fun _ _ => by kernel_rfl
  go_enter Tryz.func36, Tryz.ntmps36
  go_wp2
  go_ret
  exact ⟨rfl, rfl⟩
end Go.Proofs.YtoiopnmphbnjaaaGreatDoor
