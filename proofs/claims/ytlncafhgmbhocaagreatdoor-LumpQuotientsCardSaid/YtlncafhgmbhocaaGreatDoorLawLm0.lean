/- Contracts of functions and lemmas, used by the proofs of the given statements. No condition beyond those that each lemma names. -/
import Derived.Test.YtlncafhgmbhocaaGreatDoorJLmA1
import Derived.Test.YtlncafhgmbhocaaGreatDoorLmQ8
import Derived.Test.YtlncafhgmbhocaaGreatDoorJLmR4
import Derived.Test.YtlncafhgmbhocaaGreatDoorJLmW5
import Derived.Test.YtlncafhgmbhocaaGreatDoorJMcP
import Derived.Test.YtlncafhgmbhocaaGreatDoorLmR2
import Derived.Test.YtlncafhgmbhocaaGreatDoorTrL2
import Derived.Test.YtlncafhgmbhocaaGreatDoorOpenInts
namespace Go.Proofs.YtlncafhgmbhocaaGreatDoor
open Go.RowKit
set_option linter.unusedSimpArgs false
set_option linter.unusedVariables false
set_option maxRecDepth 20000
/-! ## law51: how great a quotient is -/
theorem quo_bd {c : Chn} (hS : Small c) (hnd : c.nd ≤ 300) (n : Nat) (P : Nat → Int) : (c.quoE n P).nm ≤ 1000000 ∧ (c.quoE n P).nd ≤ 1000000 ∧ ∀ k, k < (c.quoE n P).nm → ((c.quoE n P).R k).2.1.length ≤ 1000000 ∧ ((c.quoE n P).R k).2.2.length ≤ 1000000 := by
  by_cases h0 : c.codeQ n P = 0
  · have ok : c.Ok := Chn.ok_iff.1 (Chn.codeL_0 (Chn.codeQ_0 h0).1).1
    have h9 := hS.nd ok
    rw [Chn.quoE_0 h0]
    have hb : blks c.nd (prt P) ≤ c.nd := blks_le
    have hp : 0 < blks c.nd (prt P) := blks_pos (by have := ok.lo; omega)
    refine ⟨?_, by show blks c.nd (prt P) ≤ _; omega, fun k _ => ?_⟩
    · show (movB c.f c.t c.q c.nm c.nd (nrm (relP (prt P))) (blks c.nd (prt P))).length ≤ _
      rw [← movP_end, show movP c.f c.t c.q c.nm c.nd (nrm (relP (prt P))) (blks c.nd (prt P)) (blks c.nd (prt P)) 0 = movP c.f c.t c.q c.nm c.nd (nrm (relP (prt P))) (blks c.nd (prt P)) (blks c.nd (prt P) - 1) (blks c.nd (prt P)) by rw [movP_row, show blks c.nd (prt P) - 1 + 1 = blks c.nd (prt P) by omega]]
      have := movP_bd (F := c.f) (T := c.t) (q := c.q) (nm := c.nm) (n := c.nd) (p := nrm (relP (prt P))) (m := blks c.nd (prt P)) (a := blks c.nd (prt P) - 1) (t := blks c.nd (prt P)) (by omega) (by omega) (Nat.le_refl _)
      omega
    · have hs : Sz 400 (quQ c.f c.t c.q c.nm c.nd (nrm (relP (prt P))) (blks c.nd (prt P)) k) := by
        unfold quQ rateB
        exact hS.inS ok _ _ _ _ (Nat.le_refl _)
      have := Sz_canR hs
      exact ⟨by show (canR _).2.1.length ≤ _; omega, by show (canR _).2.2.length ≤ _; omega⟩
  · rw [Chn.quoE_n h0]
    exact ⟨by show 0 ≤ _; omega, by show 0 ≤ _; omega, fun k hk => absurd hk (Nat.not_lt_zero k)⟩
end Go.Proofs.YtlncafhgmbhocaaGreatDoor
