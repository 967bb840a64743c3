/- Contracts of functions and lemmas, used by the proofs of the given statements. No condition beyond those that each lemma names. -/
import Derived.Test.YtlncafhgmbhocaaGreatDoorJBase
namespace Go.Proofs.YtlncafhgmbhocaaGreatDoor
open Go.RowKit
set_option linter.unusedSimpArgs false
set_option linter.unusedVariables false
set_option maxRecDepth 20000
/-! ## faultlinebase: Is -/
theorem bis_eq (n : Int) (w : World) : Calls Tryz.prog 31 #[.iface 61 (.int .i64 n), .int .i64 n] w fun e w' => e = .returned (.bool true) ∧ w = w' := by
  have hta : ∀ (x : Value) (w : World), (Instr.typeAssert (.iface 61 x) 30 61 true).run Tryz.prog w = .ok (.tuple #[x, .bool true]) w := fun _ _ => by kernel_rfl
  go_enter Tryz.func31, Tryz.ntmps31
  go_wp2
  go_ret
  exact ⟨rfl, rfl⟩
theorem bis_ne {n k : Int} (h : n ≠ k) (w : World) : Calls Tryz.prog 31 #[.iface 61 (.int .i64 n), .int .i64 k] w fun e w' => e = .returned (.bool false) ∧ w = w' := by
  have hta : ∀ (x : Value) (w : World), (Instr.typeAssert (.iface 61 x) 30 61 true).run Tryz.prog w = .ok (.tuple #[x, .bool true]) w := fun _ _ => by kernel_rfl
  have e1 : (n == k) = false := beq_eq_false_iff_ne.2 h
  have e2 : decide (n = k) = false := decide_eq_false h
  go_enter Tryz.func31, Tryz.ntmps31
  go_wp2
  go_ret
  exact ⟨rfl, rfl⟩
end Go.Proofs.YtlncafhgmbhocaaGreatDoor
