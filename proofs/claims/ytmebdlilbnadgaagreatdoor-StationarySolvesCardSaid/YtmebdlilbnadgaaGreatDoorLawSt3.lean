/- Contracts of functions and lemmas, used by the proofs of the given statements. No condition beyond those that each lemma names. -/
import Derived.Test.YtmebdlilbnadgaaGreatDoorStaAw
import Derived.Test.YtmebdlilbnadgaaGreatDoorStaZ
import Derived.Test.YtmebdlilbnadgaaGreatDoorStaRc
import Derived.Test.YtmebdlilbnadgaaGreatDoorBaseBig
namespace Go.Proofs.YtmebdlilbnadgaaGreatDoor
open Go.RowKit
set_option linter.unusedSimpArgs false
set_option linter.unusedVariables false
set_option maxRecDepth 20000
attribute [local irreducible] nv wp win plainB validR valR canR mvE chkM codeC spr sprN chg cnt cntB ixB kept netS sumN dsum floG staX
/-! ## StationarySolves -/
theorem clL_len {c : Chn} (i : Nat) : (c.clL i).length ≤ c.nd := by
  unfold Chn.clL
  rw [kept_len]
  exact cntB_le
theorem ncl_le {c : Chn} : c.ncl ≤ c.nd := cntB_le
set_option maxHeartbeats 16000000 in
theorem stationarySolves_law {w : World} {AM AD : Option Addr} {cm cd : Nat} {c : Chn} (h : ChI w w.heap.size AM cm AD cd c) :
    Calls Tryz.prog 4 #[cv c.st c.sr AM c.nm cm AD c.nd cd] w fun e w' => e = .returned (.bool true) ∧ Below w.heap.size w w' := by
  have KF := Lib.hid (fun W (hb : Below w.heap.size w W) => few_any (h.below hb))
  have HI := Lib.hid (fun W (hb : Below w.heap.size w W) => h.below hb)
  have HSm := Lib.hid (fun (hf : FewP c) => hf.small h)
  have hbA : Below w.heap.size w (w.alloc (.cells #[.int .i64 c.st, .int .i64 c.sr, .slice AM c.nm cm, .slice AD c.nd cd] 25)) := (Below.refl _ _).alloc (Nat.le_refl _) _
  have HBA := Lib.hid hbA
  clear h hbA
  go_enter Tryz.func4, Tryz.ntmps4
  (go_wp2_with fail; (with_reducible refine (KF.out _ HBA.out).mono ?_); rintro e w1 ⟨⟨bb, rfl, hbb⟩, hb1⟩; have hb1z := Below.size hb1; (try simp only [ZA, ZS, ZD, ZN] at hb1z); have hb1c0 := fun o => below_at hb1 (w.heap.size) o (by first | omega | (simp only [ZA, ZS, ZD, ZN]; omega)); have hb1f0 := fun o => below_fr hb1 (w.heap.size) o (by first | omega | (simp only [ZA, ZS, ZD, ZN]; omega)))
  have hB1 : Below w.heap.size w w1 := HBA.out.trans (hb1.mono (by simp))
  cases bb with
  | false =>
    clear hbb
    (go_wp2_with fail; (with_reducible refine (awake52_any _).mono ?_); rintro e w2 ⟨rfl, hb2⟩; have hb2z := Below.size hb2; (try simp only [ZA, ZS, ZD, ZN] at hb2z))
    go_wp2
    go_ret
    exact ⟨rfl, hB1.trans (hb2.mono hB1.size)⟩
  | true =>
    have HF := Lib.hid (hbb rfl)
    have HS := Lib.hid (HSm.out (hbb rfl))
    clear hbb
    have hw1 : w.heap.size < w1.heap.size := by have := hb1.size; simp at this; omega
    obtain ⟨cc, hcc⟩ : ∃ cc, cc = c.code := ⟨_, rfl⟩
    obtain ⟨cp, hcp⟩ : ∃ cp, cp = c.codeP := ⟨_, rfl⟩
    obtain ⟨m1, hm1⟩ : ∃ m1, m1 = outN' c.code c.ncl := ⟨_, rfl⟩
    obtain ⟨m2, hm2⟩ : ∃ m2, m2 = outN' c.codeP c.nd := ⟨_, rfl⟩
    obtain ⟨LL, hLL⟩ : ∃ LL, LL = c.clL := ⟨_, rfl⟩
    obtain ⟨xp, hxp⟩ : ∃ xp, xp = c.pi := ⟨_, rfl⟩
    have K3 : Hid (∀ W, Below w.heap.size w W → Calls Tryz.prog 19 #[cv c.st c.sr AM c.nm cm AD c.nd cd] W fun e w' => AnsL errM m1 LL cc e w' ∧ Below W.heap.size W w') := fun W hb => by rw [hm1, hLL, hcc]; exact Closed_any (HI.out W hb) HS.out.sizP
    have K4 : Hid (∀ W, Below w.heap.size w W → Calls Tryz.prog 13 #[cv c.st c.sr AM c.nm cm AD c.nd cd] W fun e w' => AnsV errM m2 xp cp e w' ∧ Below W.heap.size W w') := fun W hb => by rw [hm2, hxp, hcp]; exact SolveP_any (HI.out W hb) HS.out.sizP
    have K5 : Hid (∀ W, Below w.heap.size w W → Calls Tryz.prog 20 #[cv c.st c.sr AM c.nm cm AD c.nd cd] W fun e w' => AnsL intV m1 LL cc e w' ∧ Below W.heap.size W w') := fun W hb => by rw [hm1, hLL, hcc]; exact rClosed_any (HI.out W hb) HS.out.sizP.ch
    have K6 : Hid (∀ W, Below w.heap.size w W → Calls Tryz.prog 21 #[cv c.st c.sr AM c.nm cm AD c.nd cd] W fun e w' => AnsV intV m2 xp cp e w' ∧ Below W.heap.size W w') := fun W hb => by rw [hm2, hxp, hcp]; exact rSolveP_any (HI.out W hb) HS.out.sizP
    have hnd := HF.out.nd
    have hm1' : m1 ≤ 300 := by rw [hm1]; exact Nat.le_trans (Nat.le_trans outN_le' ncl_le) hnd
    have hm2' : m2 ≤ 300 := by rw [hm2]; exact Nat.le_trans outN_le' hnd
    have HLn : Hid (∀ i, i < m1 → (LL i).length ≤ 1000000) := fun i _ => by rw [hLL]; exact Nat.le_trans (clL_len i) (by omega)
    have HXP : Hid (∀ k, k < m2 → (can xp k).2.1.length ≤ 1000000000 ∧ (can xp k).2.2.length ≤ 1000000000) := fun k hk => by
      rw [hm2] at hk
      obtain ⟨h0, h1⟩ := outN_lt hk
      have hc0 : c.code = 0 := by
        apply Classical.byContradiction
        intro hne
        rw [Chn.codeP_a hne] at h0
        exact hne h0
      rw [hxp]
      exact HS.out.pi_big (Chn.ok_iff.1 hc0) c.nd k h1
    have ecc : (cc == cc) = true := by simp
    have ecp : (cp == cp) = true := by simp
    clear hcc hcp hm1 hm2 hLL hxp HF HS HSm HI KF hnd
    (go_wp2_with fail; (with_reducible refine (awake52_any _).mono ?_); rintro e w2 ⟨rfl, hb2⟩; have hb2z := Below.size hb2; (try simp only [ZA, ZS, ZD, ZN] at hb2z); have hb2c0 := fun o => below_at hb2 (w.heap.size) o (by first | omega | (simp only [ZA, ZS, ZD, ZN]; omega)); have hb2f0 := fun o => below_fr hb2 (w.heap.size) o (by first | omega | (simp only [ZA, ZS, ZD, ZN]; omega)))
    have hB2 : Below w.heap.size w w2 := hB1.trans (hb2.mono hB1.size)
    have hz2 := hB2.size
    (go_wp2_with fail; (with_reducible refine (K3.out _ hB2).mono ?_); rintro e w3 ⟨⟨A3, c3, rfl, r3⟩, hb3⟩; have hb3z := Below.size hb3; (try simp only [ZA, ZS, ZD, ZN] at hb3z); have hb3c0 := fun o => below_at hb3 (w.heap.size) o (by first | omega | (simp only [ZA, ZS, ZD, ZN]; omega)); have hb3f0 := fun o => below_fr hb3 (w.heap.size) o (by first | omega | (simp only [ZA, ZS, ZD, ZN]; omega)))
    have hB3 : Below w.heap.size w w3 := hB2.trans (hb3.mono hB2.size)
    (go_wp2_with fail; (with_reducible refine (K4.out _ hB3).mono ?_); rintro e w4 ⟨⟨A4, c4, rfl, r4⟩, hb4⟩; have hb4z := Below.size hb4; (try simp only [ZA, ZS, ZD, ZN] at hb4z); have hb4c0 := fun o => below_at hb4 (w.heap.size) o (by first | omega | (simp only [ZA, ZS, ZD, ZN]; omega)); have hb4f0 := fun o => below_fr hb4 (w.heap.size) o (by first | omega | (simp only [ZA, ZS, ZD, ZN]; omega)))
    have hB4 : Below w.heap.size w w4 := hB3.trans (hb4.mono hB3.size)
    (go_wp2_with fail; (with_reducible refine (K5.out _ hB4).mono ?_); rintro e w5 ⟨⟨A5, c5, rfl, r5⟩, hb5⟩; have hb5z := Below.size hb5; (try simp only [ZA, ZS, ZD, ZN] at hb5z); have hb5c0 := fun o => below_at hb5 (w.heap.size) o (by first | omega | (simp only [ZA, ZS, ZD, ZN]; omega)); have hb5f0 := fun o => below_fr hb5 (w.heap.size) o (by first | omega | (simp only [ZA, ZS, ZD, ZN]; omega)))
    have hB5 : Below w.heap.size w w5 := hB4.trans (hb5.mono hB4.size)
    (go_wp2_with fail; (with_reducible refine (K6.out _ hB5).mono ?_); rintro e w6 ⟨⟨A6, c6, rfl, r6⟩, hb6⟩; have hb6z := Below.size hb6; (try simp only [ZA, ZS, ZD, ZN] at hb6z))
    have hB6 : Below w.heap.size w w6 := hB5.trans (hb6.mono hB5.size)
    have h56 : Below w5.heap.size w5 w6 := hb6
    have h46 : Below w4.heap.size w4 w6 := hb5.trans (h56.mono hb5.size)
    have h36 : Below w3.heap.size w3 w6 := hb4.trans (h46.mono hb4.size)
    have K11 := Lib.hid (fun W (hb : Below w6.heap.size w6 W) => rows_eq (c := c3) (d := c5) (r3.below (h36.trans (hb.mono h36.size))) (r5.below (h56.trans (hb.mono h56.size))) (by omega) HLn.out)
    have K12 := Lib.hid (fun W (hb : Below w6.heap.size w6 W) => rats_sameB (c := c4) (d := c6) (r4.below (h46.trans (hb.mono h46.size))) (r6.below hb) (by omega) HXP.out)
    clear r3 r4 r5 r6 h36 h46 h56 K3 K4 K5 K6 HLn HXP
    go_wp2_with fail
    (with_reducible refine (bnum_e _ _).mono ?_)
    rintro e _ ⟨rfl, rfl⟩
    (go_wp2_with fail; (with_reducible refine (K11.out _ (Below.refl _ _)).mono ?_); rintro e w11 ⟨rfl, hb11⟩; have hb11z := Below.size hb11; (try simp only [ZA, ZS, ZD, ZN] at hb11z))
    have hc11 : Below w6.heap.size w6 w11 := hb11
    go_wp2_with fail
    (with_reducible refine (bnum_e _ _).mono ?_)
    rintro e _ ⟨rfl, rfl⟩
    (go_wp2_with fail; (with_reducible refine (K12.out _ hc11).mono ?_); rintro e w12 ⟨rfl, hb12⟩; have hb12z := Below.size hb12; (try simp only [ZA, ZS, ZD, ZN] at hb12z))
    have hc12 : Below w6.heap.size w6 w12 := hc11.trans (hb12.mono hc11.size)
    go_wp2
    go_ret
    exact ⟨rfl, hB6.trans (hc12.mono hB6.size)⟩
end Go.Proofs.YtmebdlilbnadgaaGreatDoor
