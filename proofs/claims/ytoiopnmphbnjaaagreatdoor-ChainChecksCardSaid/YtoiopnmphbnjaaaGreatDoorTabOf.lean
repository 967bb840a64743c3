/- Contracts of functions and lemmas, used by the proofs of the given statements. No condition beyond those that each lemma names. -/
import Derived.Test.YtoiopnmphbnjaaaGreatDoorJDynKey
import Derived.Test.YtoiopnmphbnjaaaGreatDoorRows
import Derived.Stop.LaidErr
import Derived.LaidSub
import Derived.LaidMore
namespace Go.Proofs.YtoiopnmphbnjaaaGreatDoor
set_option linter.unusedVariables false
set_option linter.unusedSimpArgs false
open Go.RowKit
/-! ## what the row's listed table gives -/
theorem gPow : ∃ g, Tryz.prog.globalNamed "internal/strconv.uint64pow10" = some g ∧ (Tryz.prog.globals[g]?).map (·.type) = some 206 := by
  first
    | (refine ⟨0, ?_, ?_⟩ <;> (kernel_rfl; done))
    | (refine ⟨1, ?_, ?_⟩ <;> (kernel_rfl; done))
    | (refine ⟨2, ?_, ?_⟩ <;> (kernel_rfl; done))
    | (refine ⟨3, ?_, ?_⟩ <;> (kernel_rfl; done))
    | (refine ⟨4, ?_, ?_⟩ <;> (kernel_rfl; done))
    | (refine ⟨5, ?_, ?_⟩ <;> (kernel_rfl; done))
theorem tabW_of {W : World} {a b : String × DataW Unit} (h : laidMet Tryz.prog [a, b, ("internal/strconv.uint64pow10", Lib.tabData .u64 Lib.pow10Tab)] W) : TabW W := by
  obtain ⟨g, h1, h2⟩ := gPow
  exact Lib.tabIs_of_head h1 h2 Tryz.underlying206 Tryz.underlying158 (by kernel_rfl) (by kernel_rfl) h.tail.tail
theorem tabW_row {W : World} {l : List (String × DataW Unit)} (hl : l = Rows.chainSumsRow.laid) (h : laidMetH Tryz.prog l W) : TabW W := by
  subst hl
  rw [MakeChecks.laidMetH_plain _ _ _ (by kernel_rfl)] at h
  exact tabW_of h
end Go.Proofs.YtoiopnmphbnjaaaGreatDoor
