/- Contracts of functions and lemmas, used by the proofs of the given statements. No condition beyond those that each lemma names. -/
import Derived.Test.YtomkdgcpmpbfhaaGreatDoorAbX
namespace Go.Proofs.YtomkdgcpmpbfhaaGreatDoor
open Go.RowKit
set_option linter.unusedSimpArgs false
set_option linter.unusedVariables false
set_option maxRecDepth 20000
attribute [local irreducible] nv wp win plainB validR valR canR
/-! ## faultlinebase: Words, Rat, Rats of great numbers; Bools -/
set_option maxHeartbeats 2000000 in
theorem words_sameB {w : World} {A B : Option Addr} {n c d : Nat} {l : List Nat} (h : RdW w w.heap.size A l) (h' : RdW w w.heap.size B l) (hl : l.length = n) (hn : n ≤ 1000000000) :
    Calls Tryz.prog 81 #[.slice A n c, .slice B n d] w fun e w' => e = .returned (.bool true) ∧ Below w.heap.size w w' := by
  have HA := Lib.hid h
  have HB := Lib.hid h'
  have HL := Lib.hid hl
  have e0 : ((n : Int) != (n : Int)) = false := by simp
  clear h h' hl
  go_enter Tryz.func81, Tryz.ntmps81
  go_wp2
  go_loopw [13] (fun i wr => ∃ k : Nat, k ≤ n ∧ i = .int .i64 (k : Int) ∧ Below w.heap.size w wr) (fun i _ => n - (intOf i).toNat)
  case atStart => exact ⟨0, Nat.zero_le _, rfl, Below.refl _ _⟩
  case round =>
    obtain ⟨k, hk, rfl, hb⟩ := hrel
    by_cases hlt : k < n
    · obtain ⟨ba, oa, rfl, hba, f0⟩ := HA.out.at_ (show k < l.length by rw [HL.out]; exact hlt)
      obtain ⟨bb, ob, rfl, hbb, f1⟩ := HB.out.at_ (show k < l.length by rw [HL.out]; exact hlt)
      have g0 := (hb.cell (p := ⟨ba, oa + k, none⟩) hba).trans f0
      have g1 := (hb.cell (p := ⟨bb, ob + k, none⟩) hbb).trans f1
      generalize l[k]'(by rw [HL.out]; exact hlt) = x at *
      have e1 : ((x : Int) != (x : Int)) = false := by simp
      have x0 := fun y : Sub wr => y.cell g0
      have x1 := fun y : Sub wr => y.cell g1
      have hk0 : (0 : Int) ≤ (k : Int) := by omega
      have hki : (k : Int) < (n : Int) := by omega
      clear f0 f1 g0 g1
      go_wp2
      ((refine wp_region_quiet_bel (by kernel_rfl) (by kernel_rfl) ?_); (repeat (go_big_quiet_step (fail))); (refine wpQuiet_nil ?_); rintro w5 ⟨⟨_, hb5⟩, rfl⟩; (try dsimp only))
      go_wp2
      go_roundw
      case rel => exact ⟨k + 1, by omega, by go_num, hb.trans (hb5.mono hb.size)⟩
      case measure => simp [intOf]; omega
    · go_wp2
      go_ret
      exact ⟨rfl, hb⟩
end Go.Proofs.YtomkdgcpmpbfhaaGreatDoor
