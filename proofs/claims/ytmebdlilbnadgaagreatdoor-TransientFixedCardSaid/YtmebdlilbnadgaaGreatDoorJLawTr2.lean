/- Contracts of functions and lemmas, used by the proofs of the given statements. No condition beyond those that each lemma names. -/
import Derived.Test.YtmebdlilbnadgaaGreatDoorLawTrV
import Derived.Test.YtmebdlilbnadgaaGreatDoorJTrW6
import Derived.Test.YtmebdlilbnadgaaGreatDoorJTrW4
import Derived.Test.YtmebdlilbnadgaaGreatDoorJLawTr
import Derived.Test.YtmebdlilbnadgaaGreatDoorStaW3
import Derived.Test.YtmebdlilbnadgaaGreatDoorTrL2
import Derived.Test.YtmebdlilbnadgaaGreatDoorJTrZ
import Derived.Test.YtmebdlilbnadgaaGreatDoorJTrAw
namespace Go.Proofs.YtmebdlilbnadgaaGreatDoor
open Go.RowKit
set_option linter.unusedSimpArgs false
set_option linter.unusedVariables false
set_option maxRecDepth 20000
attribute [local irreducible] nv wp win plainB validR valR canR mvE chkM codeC exK maxF dsum
/-! ## TransientSums -/
theorem ValP.okc {c : Chn} {r : Rw} (h : ValP c r) : c.Ok ∧ 0 < valR r ∧ c.fast ≤ valR r :=
  ⟨(Chn.codeR_ok h.code).1, (Chn.codeR_0 h.code).2⟩
theorem codeT_0 {c : Chn} {r : Rw} {n : Nat} {R : Nat → Rw} (h : c.codeR r = 0) (hn : n = c.nd) (ha : allV n R = true) : c.codeT r n R = 0 := by
  unfold Chn.codeT
  rw [if_neg (by omega), if_neg (by omega), if_pos ha]
end Go.Proofs.YtmebdlilbnadgaaGreatDoor
namespace Go.Proofs.YtmebdlilbnadgaaGreatDoor
open Go.RowKit
set_option linter.unusedSimpArgs false
set_option linter.unusedVariables false
set_option maxRecDepth 20000
attribute [local irreducible] nv wp win plainB validR valR canR mvE chkM codeC exK maxF dsum
/-! ## TransientJoins -/
theorem allV_can (n : Nat) (x : Nat → Rat) : allV n (can x) = true := allV_yes fun k _ => canR_valid _
end Go.Proofs.YtmebdlilbnadgaaGreatDoor
namespace Go.Proofs.YtmebdlilbnadgaaGreatDoor
open Go.RowKit
set_option linter.unusedSimpArgs false
set_option linter.unusedVariables false
set_option maxRecDepth 20000
attribute [local irreducible] nv wp win plainB validR valR canR mvE chkM codeC netS sumN dsum floG
/-! ## law52: valid; Solve, Down and Frequency of a chain with one closed class -/
theorem Small.pi_big {c : Chn} (hS : Small c) (ok : c.Ok) (n : Nat) : BigS n (can c.pi) := fun k _ => by
  obtain ⟨M, hM⟩ : ∃ M, M = 21400000 := ⟨_, rfl⟩
  have h : Sz M (c.pi k) := by rw [hM]; exact hS.pi_sz ok k
  have := Sz_canR h
  show (canR (c.pi k)).2.1.length ≤ _ ∧ (canR (c.pi k)).2.2.length ≤ _
  omega
theorem outS_0 {n : Nat} : outN' 0 n = n := by unfold outN'; rw [if_pos rfl]
section
variable {w : World} {AM AD A : Option Addr} {cm cd ca : Nat} {c : Chn}
/-- Solve, where it succeeds -/
theorem solve_ok (h : ChI w w.heap.size AM cm AD cd c) (hS : SizP c) (h0 : c.code = 0) (h1 : c.ncl = 1) :
    Calls Tryz.prog 13 #[cv c.st c.sr AM c.nm cm AD c.nd cd] w fun e w' => (∃ A d, e = .returned (.tuple #[.slice A c.nd d, .nilIface]) ∧ RowA w' w'.heap.size A c.nd (can c.pi)) ∧ Below w.heap.size w w' :=
  (SolveP_any h hS).mono fun e w' hh => ⟨by
    have := hh.1
    rw [Chn.codeP_z h0 h1, outS_0] at this
    obtain ⟨A, d, e1, r⟩ := this
    rw [errM_0] at e1
    exact ⟨A, d, e1, r⟩, hh.2⟩
/-- Solve, where there is more than one closed class -/
theorem solve_no (h : ChI w w.heap.size AM cm AD cd c) (hS : SizP c) (h0 : c.code = 0) (h1 : c.ncl ≠ 1) :
    Calls Tryz.prog 13 #[cv c.st c.sr AM c.nm cm AD c.nd cd] w fun e w' => (∃ A d, e = .returned (.tuple #[.slice A 0 d, .iface 41 (.int .i64 16)])) ∧ Below w.heap.size w w' :=
  (SolveP_any h hS).mono fun e w' hh => ⟨by
    have := hh.1
    rw [Chn.codeP_n h0 h1] at this
    obtain ⟨A, d, e1, r⟩ := this
    refine ⟨A, d, ?_⟩
    rw [e1, errM_n (by omega)]
    rfl, hh.2⟩
end
end Go.Proofs.YtmebdlilbnadgaaGreatDoor
