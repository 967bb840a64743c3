/- Contracts of functions and lemmas, used by the proofs of the given statements. No condition beyond those that each lemma names. -/
import Derived.Test.YtmebdlilbnadgaaGreatDoorLinMk
import Derived.Test.YtmebdlilbnadgaaGreatDoorJBase
namespace Go.Proofs.YtmebdlilbnadgaaGreatDoor
open Go.RowKit
set_option linter.unusedSimpArgs false
set_option linter.unusedVariables false
set_option maxRecDepth 20000
attribute [local irreducible] nv wp win plainB validR valR canR
/-! ## faultlinebase: Num, Words, Rat, Rats -/
theorem bnum_0 (w : World) : Calls Tryz.prog 22 #[.nilIface] w fun e w' => e = .returned (.int .i64 0) ∧ w = w' := by
  go_enter Tryz.func22, Tryz.ntmps22
  go_wp2
  go_ret
  exact ⟨rfl, rfl⟩
theorem bnum_n (n : Int) (w : World) : Calls Tryz.prog 22 #[.iface 41 (.int .i64 n)] w fun e w' => e = .returned (.int .i64 n) ∧ w = w' := by
  have hta : ∀ (x : Value) (w : World), (Instr.typeAssert (.iface 41 x) 37 41 true).run Tryz.prog w = .ok (.tuple #[x, .bool true]) w := fun _ _ => by kernel_rfl
  go_enter Tryz.func22, Tryz.ntmps22
  go_wp2
  go_ret
  exact ⟨rfl, rfl⟩
theorem bnum_e (c : Int) (w : World) : Calls Tryz.prog 22 #[errM c] w fun e w' => e = .returned (.int .i64 c) ∧ w = w' := by
  by_cases h : c = 0
  · rw [h, errM_0]; exact bnum_0 w
  · rw [errM_n h]; exact bnum_n c w
theorem RdS.parts {w : World} {b0 : Nat} {v : Value} {r : Rw} (h : RdS w b0 v r) : ∃ A c B d, v = rv r.1 A r.2.1.length c B r.2.2.length d ∧ RdW w w.heap.size A r.2.1 ∧ RdW w w.heap.size B r.2.2 := by
  obtain ⟨A, c, B, d, e, _, _, _, hA, hB, _⟩ := h
  exact ⟨A, c, B, d, e, hA, hB⟩
end Go.Proofs.YtmebdlilbnadgaaGreatDoor
