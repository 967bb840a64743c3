/- Contracts of functions and lemmas, used by the proofs of the given statements. No condition beyond those that each lemma names. -/
import Derived.Test.YtomkdgcpmpbfhaaGreatDoorJAbZ
import Derived.Test.YtomkdgcpmpbfhaaGreatDoorAcW
import Derived.Test.YtomkdgcpmpbfhaaGreatDoorAbRb
import Derived.Test.YtomkdgcpmpbfhaaGreatDoorJLinF
import Derived.Test.YtomkdgcpmpbfhaaGreatDoorAcE
import Derived.Test.YtomkdgcpmpbfhaaGreatDoorAcB
import Derived.Test.YtomkdgcpmpbfhaaGreatDoorAbL
import Derived.Test.YtomkdgcpmpbfhaaGreatDoorAbH
import Derived.Test.YtomkdgcpmpbfhaaGreatDoorAbE
import Derived.Test.YtomkdgcpmpbfhaaGreatDoorBaseBig
namespace Go.Proofs.YtomkdgcpmpbfhaaGreatDoor
open Go.RowKit
set_option linter.unusedSimpArgs false
set_option linter.unusedVariables false
set_option maxRecDepth 20000
attribute [local irreducible] nv wp win plainB validR valR canR mvE chkM codeC spr sprN chg cnt cntB ixB kept sysK plB parM outK gj accL totL floL
/-! ## AbsorbTells -/
theorem Brief6.big {n : Nat} {R : Nat → Rw} (h : Brief6 n R) : BigS n R := fun k hk => by have := h.2 k hk; omega
theorem brief_fz {w : World} {b0 n : Nat} {A : Option Addr} {R : Nat → Rw} (h : RowA w b0 A n R) (hb : Brief6 n R) : FzL (n * 6 + 6 + 1) (vecQ n R) :=
  FzL.of_sz (fun s hs => by unfold vecQ; rw [if_pos hs]; have := hb.2 s hs; exact Sz_valR (h.okR' hs) (by omega) this.1 this.2) (fun s hs => by unfold vecQ; rw [if_neg (by omega)]) (by omega)
end Go.Proofs.YtomkdgcpmpbfhaaGreatDoor
namespace Go.Proofs.YtomkdgcpmpbfhaaGreatDoor
open Go.RowKit
set_option linter.unusedSimpArgs false
set_option linter.unusedVariables false
set_option maxRecDepth 20000
attribute [local irreducible] nv wp win plainB validR valR canR mvE chkM codeC spr sprN chg cnt cntB ixB kept sysK plB parM outK gj
/-! ## AbsorbSolves -/
theorem outA_lt {c : Chn} {k : Nat} (h : k < outN' c.codeA c.nd) : c.codeA = 0 ∧ k < c.nd := by
  unfold outN' at h
  split at h
  · rename_i h0; exact ⟨h0, h⟩
  · omega
theorem big_can {n M : Nat} {x : Nat → Rat} (hM : M ≤ 1000000000) (h : ∀ k, k < n → Sz M (x k)) : ∀ k, k < n → (can x k).2.1.length ≤ 1000000000 ∧ (can x k).2.2.length ≤ 1000000000 := fun k hk => by
  have := Sz_canR (h k hk)
  show (canR (x k)).2.1.length ≤ _ ∧ (canR (x k)).2.2.length ≤ _
  omega
theorem times_big {c : Chn} (hS : Small c) : ∀ k, k < outN' c.codeA c.nd → (can c.times k).2.1.length ≤ 1000000000 ∧ (can c.times k).2.2.length ≤ 1000000000 := by
  obtain ⟨M, hM⟩ : ∃ M, M = 21400000 := ⟨_, rfl⟩
  refine big_can (M := M) (by omega) fun k hk => ?_
  obtain ⟨h0, h1⟩ := outA_lt hk
  rw [hM]
  exact hS.sol_sz h0 false h1
end Go.Proofs.YtomkdgcpmpbfhaaGreatDoor
