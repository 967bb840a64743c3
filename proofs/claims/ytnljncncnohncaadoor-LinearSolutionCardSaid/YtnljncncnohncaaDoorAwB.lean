/- Contracts of functions and lemmas, used by the proofs of the given statements. No condition beyond those that each lemma names. -/
import Derived.Test.YtnljncncnohncaaDoorAwA
namespace Go.Proofs.YtnljncncnohncaaDoor
open Go.RowKit
set_option linter.unusedSimpArgs false
set_option linter.unusedVariables false
set_option maxRecDepth 20000
/-! ## the document's example, in plain numbers -/
def exX (i k : Nat) : Nat := if i = 0 then (if k = 0 then 1 else 2) else (if k = 0 then 3 else 4)
def exY (i k : Nat) : Nat := if k = 0 then 5 else 6
def exM (i k : Nat) : Rat := (exX i k : Rat)
def exW : Mf := wide exM (fun i => ((exY 0 i : Nat) : Rat)) 2
theorem ex_det : detF 2 exM = -2 := by decide +kernel
theorem ex_code : codeS 2 2 exW = 0 := by decide +kernel
theorem ex_x0 : (gj 2 exW 3).1 0 2 = -4 := by decide +kernel
theorem ex_x1 : (gj 2 exW 3).1 1 2 = 9/2 := by decide +kernel
theorem ex_codeM : codeM 2 (fun _ => 2) = 0 := by decide +kernel
theorem ex_gl : gl 1 3 ≤ 1000000000 := by decide +kernel
theorem tx1 : Lib.trimLeftB (strOfNums (nineL 1)).data.toList 48 = [49] := by decide +kernel
theorem tx2 : Lib.trimLeftB (strOfNums (nineL 2)).data.toList 48 = [50] := by decide +kernel
theorem tx4 : Lib.trimLeftB (strOfNums (nineL 4)).data.toList 48 = [52] := by decide +kernel
theorem tx9 : Lib.trimLeftB (strOfNums (nineL 9)).data.toList 48 = [57] := by decide +kernel
theorem sz_nat {n : Nat} (h : n < 4294967296) : Sz 1 (n : Rat) := ⟨by show (Rat.num (n : Rat)).natAbs < wp 1; rw [wp_one, Rat.num_natCast]; simpa using h, by rw [wp_one, Rat.den_natCast]; omega⟩
attribute [local irreducible] nv wp win plainB validR valR canR
end Go.Proofs.YtnljncncnohncaaDoor
