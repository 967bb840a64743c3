/- Contracts of functions and lemmas, used by the proofs of the given statements. No condition beyond those that each lemma names. -/
import Derived.Test.YtedopalmfakeaaaCubeC5
namespace Go.Proofs.Ytedopalmfakeaaa
open Go.RowKit
set_option linter.unusedSimpArgs false
set_option linter.unusedVariables false
set_option maxRecDepth 20000
attribute [local irreducible] pop popc cntC covB
theorem size_any (c : Cn) (hc : okN c) (w : World) : Calls Try.prog 45 #[cbv (zc c)] w fun e w' => e = .returned (.int .i64 (popc c.1 + popc c.2 : Nat)) ∧ Below w.heap.size w w' := by
  have l1 := popc_le c.1
  have l2 := popc_le c.2
  have K1 := Lib.hid (refBits_any c.1 hc.1)
  have K2 := Lib.hid (refBits_any c.2 hc.2.1)
  generalize popc c.1 = q1 at *
  generalize popc c.2 = q2 at *
  have e1 : IntKind.i64.wrap ((q1 : Int) + (q2 : Int)) = (q1 : Int) + (q2 : Int) := by rw [IntKind.wrap_i64]; omega
  go_enter Try.func45, Try.ntmps45
  go_wp2
  have f1 := fun y : Sub (w.alloc (.cells #[.int .i64 (c.1 : Int), .int .i64 (c.2 : Int)] 23)) => y.cell (b := w.heap.size) (o := 0) (u := .int .i64 (c.1 : Int)) (by simp [go_sem])
  have f2 := fun y : Sub (w.alloc (.cells #[.int .i64 (c.1 : Int), .int .i64 (c.2 : Int)] 23)) => y.cell (b := w.heap.size) (o := 1) (u := .int .i64 (c.2 : Int)) (by simp [go_sem])
  ((refine wp_region_quiet_bel (by kernel_rfl) (by kernel_rfl) ?_); (repeat (go_big_quiet_step (first | (go_at_call 78; with_reducible exact Calls.quiet_same (K1.out _)) | (go_at_call 78; with_reducible exact Calls.quiet_same (K2.out _))))); (refine wpQuiet_nil ?_); rintro w5 ⟨⟨_, hb5⟩, rfl⟩; (try dsimp only))
  go_wp2
  go_ret
  exact ⟨ret_int (by show (q1 : Int) + (q2 : Int) = _; omega), (by have z0 := Below.size hb5; (try simp only [World.size_alloc, World.size_setCell, World.size_drew, size_drewN'] at z0 ⊢; skip); repeat' (first | (with_reducible exact Below.refl _ _) | (with_reducible assumption) | (with_reducible refine Below.alloc ?_ ?_ _) | (with_reducible refine Below.drew ?_) | (with_reducible refine below_drewN ?_ _) | (with_reducible refine Below.setCell ?_ ?_ _) | (with_reducible refine Below.trans ?_ (Below.mono (by with_reducible assumption) ?_)) | omega | (simp only [World.size_alloc, World.size_setCell, World.size_drew, size_drewN']; omega) | go_size))⟩
end Go.Proofs.Ytedopalmfakeaaa
