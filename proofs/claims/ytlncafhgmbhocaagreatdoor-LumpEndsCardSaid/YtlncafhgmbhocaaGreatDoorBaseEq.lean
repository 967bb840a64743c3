/- Contracts of functions and lemmas, used by the proofs of the given statements. No condition beyond those that each lemma names. -/
import Derived.Test.YtlncafhgmbhocaaGreatDoorLinMk
import Derived.Test.YtlncafhgmbhocaaGreatDoorJBase
namespace Go.Proofs.YtlncafhgmbhocaaGreatDoor
open Go.RowKit
set_option linter.unusedSimpArgs false
set_option linter.unusedVariables false
set_option maxRecDepth 20000
attribute [local irreducible] nv wp win plainB validR valR canR
/-! ## faultlinebase: Num, Words, Rat, Rats -/
theorem bnum_0 (w : World) : Calls Tryz.prog 14 #[.nilIface] w fun e w' => e = .returned (.int .i64 0) ∧ w = w' := by
  go_enter Tryz.func14, Tryz.ntmps14
  go_wp2
  go_ret
  exact ⟨rfl, rfl⟩
theorem bnum_n (n : Int) (w : World) : Calls Tryz.prog 14 #[.iface 61 (.int .i64 n)] w fun e w' => e = .returned (.int .i64 n) ∧ w = w' := by
  have hta : ∀ (x : Value) (w : World), (Instr.typeAssert (.iface 61 x) 30 61 true).run Tryz.prog w = .ok (.tuple #[x, .bool true]) w := fun _ _ => by kernel_rfl
  go_enter Tryz.func14, Tryz.ntmps14
  go_wp2
  go_ret
  exact ⟨rfl, rfl⟩
theorem bnum_e (c : Int) (w : World) : Calls Tryz.prog 14 #[errM c] w fun e w' => e = .returned (.int .i64 c) ∧ w = w' := by
  by_cases h : c = 0
  · rw [h, errM_0]; exact bnum_0 w
  · rw [errM_n h]; exact bnum_n c w
end Go.Proofs.YtlncafhgmbhocaaGreatDoor
