/- Contracts of functions and lemmas, used by the proofs of the given statements. No condition beyond those that each lemma names. -/
import Derived.Test.YtomkdgcpmpbfhaaGreatDoorTrL2
import Derived.Test.YtomkdgcpmpbfhaaGreatDoorAbRb
import Derived.Test.YtomkdgcpmpbfhaaGreatDoorAbZ
namespace Go.Proofs.YtomkdgcpmpbfhaaGreatDoor
open Go.RowKit
set_option linter.unusedSimpArgs false
set_option linter.unusedVariables false
set_option maxRecDepth 20000
attribute [local irreducible] nv wp win plainB validR valR canR mvE chkM codeC exK maxF dsum spr sprN chg cnt cntB ixB kept sysK
/-! ## law54: brief, valid -/
set_option maxHeartbeats 2000000 in
theorem valid54_any {w : World} {AM AD : Option Addr} {cm cd : Nat} {c : Chn} (h : ChI w w.heap.size AM cm AD cd c) :
    Calls Tryz.prog 23 #[cv c.st c.sr AM c.nm cm AD c.nd cd] w fun e w' => RetB (FewP c ∧ c.codeA = 0) e ∧ Below w.heap.size w w' := by
  have KF := Lib.hid (fun W (hb : Below w.heap.size w W) => few_any (h.below hb))
  have KE := Lib.hid (fun W (hb : Below w.heap.size w W) (hf : FewP c) => rerror_any (h.below hb) (hf.small h).chS)
  have hbA : Below w.heap.size w (w.alloc (.cells #[.int .i64 c.st, .int .i64 c.sr, .slice AM c.nm cm, .slice AD c.nd cd] 25)) := (Below.refl _ _).alloc (Nat.le_refl _) _
  have HBA := Lib.hid hbA
  have hD : ∀ ca : Int, decide (ca = 0) = true → ca = 0 := fun ca h => of_decide_eq_true h
  clear h hbA
  go_enter Tryz.func23, Tryz.ntmps23
  (go_wp2_with fail; (with_reducible refine (KF.out _ HBA.out).mono ?_); rintro e w1 ⟨⟨bb, rfl, hbb⟩, hb1⟩; have hb1z := Below.size hb1; (try simp only [ZA, ZS, ZD, ZN] at hb1z); have hb1c0 := fun o => below_at hb1 (w.heap.size) o (by first | omega | (simp only [ZA, ZS, ZD, ZN]; omega)); have hb1f0 := fun o => below_fr hb1 (w.heap.size) o (by first | omega | (simp only [ZA, ZS, ZD, ZN]; omega)))
  have hB1 : Below w.heap.size w w1 := HBA.out.trans (hb1.mono (by simp))
  cases bb with
  | false =>
    clear hbb
    go_wp2
    go_ret
    exact ⟨retB_f, hB1⟩
  | true =>
    have HF := Lib.hid (hbb rfl)
    clear hbb
    have KE2 := Lib.hid (fun W hb => KE.out W hb HF.out)
    obtain ⟨ca, hca⟩ : ∃ ca, ca = c.codeA := ⟨_, rfl⟩
    rw [← hca] at KE2
    have HCA := Lib.hid hca
    clear hca KE
    by_cases h0 : ca = 0
    · subst h0
      (go_wp2_with fail; (with_reducible refine (KE2.out _ hB1).mono ?_); rintro e w2 ⟨rfl, hb2⟩; have hb2z := Below.size hb2; (try simp only [ZA, ZS, ZD, ZN] at hb2z))
      go_wp2
      go_ret
      exact ⟨retB_t ⟨HF.out, HCA.out.symm⟩, hB1.trans (hb2.mono hB1.size)⟩
    · have e1 : (ca == 0) = false := by simpa using h0
      (go_wp2_with fail; (with_reducible refine (KE2.out _ hB1).mono ?_); rintro e w2 ⟨rfl, hb2⟩; have hb2z := Below.size hb2; (try simp only [ZA, ZS, ZD, ZN] at hb2z))
      go_wp2
      go_ret
      exact ⟨retB_f, hB1.trans (hb2.mono hB1.size)⟩
end Go.Proofs.YtomkdgcpmpbfhaaGreatDoor
