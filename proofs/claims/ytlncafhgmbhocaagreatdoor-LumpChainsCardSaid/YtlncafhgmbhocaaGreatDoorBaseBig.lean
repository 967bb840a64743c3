/- Contracts of functions and lemmas, used by the proofs of the given statements. No condition beyond those that each lemma names. -/
import Derived.Test.YtlncafhgmbhocaaGreatDoorJAbQ
import Derived.Test.YtlncafhgmbhocaaGreatDoorJLinC
import Derived.Test.YtlncafhgmbhocaaGreatDoorJBase
import Derived.Test.YtlncafhgmbhocaaGreatDoorLinMk
import Derived.Test.YtlncafhgmbhocaaGreatDoorTrL2
import Derived.Test.YtlncafhgmbhocaaGreatDoorJTextC
import Derived.Test.YtlncafhgmbhocaaGreatDoorBaseEq
namespace Go.Proofs.YtlncafhgmbhocaaGreatDoor
open Go.RowKit
set_option linter.unusedSimpArgs false
set_option linter.unusedVariables false
set_option maxRecDepth 20000
attribute [local irreducible] nv wp win plainB validR valR canR
/-! ## faultlinebase: Words, Rat, Rats of great numbers; Bools -/
set_option maxHeartbeats 2000000 in
theorem bools_same {w : World} {n c d : Nat} {A B : Option Addr} {f : Nat → Bool} (h : MkI w A n f) (h' : MkI w B n f) (hn : n ≤ 1000000) :
    Calls Tryz.prog 49 #[.slice A n c, .slice B n d] w fun e w' => e = .returned (.bool true) ∧ Below w.heap.size w w' := by
  have HA := Lib.hid h
  have HB := Lib.hid h'
  have e0 : ((n : Int) != (n : Int)) = false := by simp
  clear h h'
  go_enter Tryz.func49, Tryz.ntmps49
  go_wp2
  go_loopw [13] (fun i wr => ∃ k : Nat, k ≤ n ∧ i = .int .i64 (k : Int) ∧ Below w.heap.size w wr) (fun i _ => n - (intOf i).toNat)
  case atStart => exact ⟨0, Nat.zero_le _, rfl, Below.refl _ _⟩
  case round =>
    obtain ⟨k, hk, rfl, hb⟩ := hrel
    by_cases hlt : k < n
    · obtain ⟨ba, oa, rfl, hba, g0⟩ := HA.out.later hb hlt
      obtain ⟨bb, ob, rfl, hbb, g1⟩ := HB.out.later hb hlt
      generalize f k = x at *
      have e1 : (x != x) = false := by simp
      have x0 := fun y : Sub wr => y.cell g0
      have x1 := fun y : Sub wr => y.cell g1
      have hk0 : (0 : Int) ≤ (k : Int) := by omega
      have hki : (k : Int) < (n : Int) := by omega
      clear g0 g1
      go_wp2
      ((refine wp_region_quiet_bel (by kernel_rfl) (by kernel_rfl) ?_); (repeat (go_big_quiet_step (fail))); (refine wpQuiet_nil ?_); rintro w5 ⟨⟨_, hb5⟩, rfl⟩; (try dsimp only))
      go_wp2
      go_roundw
      case rel => exact ⟨k + 1, by omega, by go_num, hb.trans (hb5.mono hb.size)⟩
      case measure => simp [intOf]; omega
    · go_wp2
      go_ret
      exact ⟨rfl, hb⟩
end Go.Proofs.YtlncafhgmbhocaaGreatDoor
