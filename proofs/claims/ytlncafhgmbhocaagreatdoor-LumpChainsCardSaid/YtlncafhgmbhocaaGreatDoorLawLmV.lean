/- Contracts of functions and lemmas, used by the proofs of the given statements. No condition beyond those that each lemma names. -/
import Derived.Test.YtlncafhgmbhocaaGreatDoorJLmA1
import Derived.Test.YtlncafhgmbhocaaGreatDoorLmQ7
import Derived.Test.YtlncafhgmbhocaaGreatDoorJMcP
import Derived.Test.YtlncafhgmbhocaaGreatDoorJLmW5
import Derived.Test.YtlncafhgmbhocaaGreatDoorLmR1
import Derived.Test.YtlncafhgmbhocaaGreatDoorTrL2
import Derived.Test.YtlncafhgmbhocaaGreatDoorOpenInts
import Derived.Test.YtlncafhgmbhocaaGreatDoorJBase
namespace Go.Proofs.YtlncafhgmbhocaaGreatDoor
open Go.RowKit
set_option linter.unusedSimpArgs false
set_option linter.unusedVariables false
set_option maxRecDepth 20000
attribute [local irreducible] nv wp win plainB validR valR canR mvE chkM codeC smK alk badP nrm eqN eqZ blks memZ crsP itP rfn movB rateB
/-! ## law51: valid -/
set_option maxHeartbeats 8000000 in
theorem valid51_any {w : World} {AM AD AV : Option Addr} {cm cd n ca : Nat} {c : Chn} {P : Nat → Int} (h : ChI w w.heap.size AM cm AD cd c) (hv : PaI w AV n P) :
    Calls Tryz.prog 16 #[cv c.st c.sr AM c.nm cm AD c.nd cd, .slice AV n ca] w fun e w' => RetB (FewP c ∧ c.codeL n P = 0) e ∧ Below w.heap.size w w' := by
  have KF := Lib.hid (fun W (hb : Below w.heap.size w W) => few_any (h.below hb))
  have KE := Lib.hid (fun W (hb : Below w.heap.size w W) (hf : FewP c) (hn : n ≤ 1000000) => lrErr_any (ca := ca) (h.below hb) (hf.small h).chS (hv.below hb) hn)
  have hbA : Below w.heap.size w (w.alloc (.cells #[.int .i64 c.st, .int .i64 c.sr, .slice AM c.nm cm, .slice AD c.nd cd] 25)) := (Below.refl _ _).alloc (Nat.le_refl _) _
  have HBA := Lib.hid hbA
  clear h hv hbA
  go_enter Tryz.func16, Tryz.ntmps16
  (go_wp2_with fail; (with_reducible refine (KF.out _ HBA.out).mono ?_); rintro e w1 ⟨⟨bb, rfl, hbb⟩, hb1⟩; have hb1z := Below.size hb1; (try simp only [ZA, ZS, ZD, ZN] at hb1z); have hb1c0 := fun o => below_at hb1 (w.heap.size) o (by first | omega | (simp only [ZA, ZS, ZD, ZN]; omega)); have hb1f0 := fun o => below_fr hb1 (w.heap.size) o (by first | omega | (simp only [ZA, ZS, ZD, ZN]; omega)))
  have hB1 : Below w.heap.size w w1 := HBA.out.trans (hb1.mono (by simp))
  cases bb with
  | false =>
    clear hbb
    go_wp2
    go_ret
    exact ⟨retB_f, hB1⟩
  | true =>
    have HF := Lib.hid (hbb rfl)
    clear hbb
    by_cases hn : n ≤ 300
    · have KE2 := Lib.hid (fun W hb => KE.out W hb HF.out (by omega))
      obtain ⟨cc, hcc⟩ : ∃ cc, cc = c.codeL n P := ⟨_, rfl⟩
      rw [← hcc] at KE2
      have HCC := Lib.hid hcc
      have hni : (n : Int) ≤ 300 := by omega
      have e5 : decide ((n : Int) ≤ 300) = true := by simp; omega
      have e6 : decide (n ≤ 300) = true := by simp; omega
      clear hcc KE
      by_cases h0 : cc = 0
      · subst h0
        (go_wp2_with fail; (with_reducible refine (KE2.out _ hB1).mono ?_); rintro e w2 ⟨rfl, hb2⟩; have hb2z := Below.size hb2; (try simp only [ZA, ZS, ZD, ZN] at hb2z))
        go_wp2
        go_ret
        exact ⟨retB_t ⟨HF.out, HCC.out.symm⟩, hB1.trans (hb2.mono hB1.size)⟩
      · have e1 : (cc == 0) = false := by simpa using h0
        (go_wp2_with fail; (with_reducible refine (KE2.out _ hB1).mono ?_); rintro e w2 ⟨rfl, hb2⟩; have hb2z := Below.size hb2; (try simp only [ZA, ZS, ZD, ZN] at hb2z))
        go_wp2
        go_ret
        exact ⟨retB_f, hB1.trans (hb2.mono hB1.size)⟩
    · have hni : ¬ (n : Int) ≤ 300 := by omega
      have e5 : decide ((n : Int) ≤ 300) = false := by simp; omega
      have e6 : decide (n ≤ 300) = false := by simp; omega
      go_wp2
      go_ret
      exact ⟨retB_f, hB1⟩
end Go.Proofs.YtlncafhgmbhocaaGreatDoor
