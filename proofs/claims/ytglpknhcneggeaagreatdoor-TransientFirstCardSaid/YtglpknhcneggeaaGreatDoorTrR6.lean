/- Contracts of functions and lemmas, used by the proofs of the given statements. No condition beyond those that each lemma names. -/
import Derived.Test.YtglpknhcneggeaaGreatDoorTrR5
namespace Go.Proofs.YtglpknhcneggeaaGreatDoor
open Go.RowKit
set_option linter.unusedSimpArgs false
set_option linter.unusedVariables false
set_option maxRecDepth 20000
attribute [local irreducible] nv wp win plainB validR valR canR mvE chkM codeC exK maxF dsum
/-! ## reference: Step -/
def RetFc (b0 base n : Nat) (x : Nat → Rat) (code : Int) (e : Ending) (w' : World) : Prop := if code = 0 then ∃ A c, e = .returned (.tuple #[.slice A n c, .int .i64 0]) ∧ OwF w' b0 base A c n x else e = .returned (.tuple #[.slice none 0 0, .int .i64 code])
theorem retFc_0 {b0 base n : Nat} {x : Nat → Rat} {code : Int} {A : Option Addr} {c : Nat} {w' : World} (h : code = 0) (hr : OwF w' b0 base A c n x) : RetFc b0 base n x code (.returned (.tuple #[.slice A n c, .int .i64 0])) w' := by
  unfold RetFc; rw [if_pos h]; exact ⟨A, c, rfl, hr⟩
theorem retFc_n {b0 base n : Nat} {x : Nat → Rat} {code z : Int} {w' : World} (h : code ≠ 0) (hz : code = z) : RetFc b0 base n x code (.returned (.tuple #[.slice none 0 0, .int .i64 z])) w' := by
  unfold RetFc; rw [if_neg h, hz]
end Go.Proofs.YtglpknhcneggeaaGreatDoor
