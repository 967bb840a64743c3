/- Contracts of functions and lemmas, used by the proofs of the given statements. No condition beyond those that each lemma names. -/
import Derived.Test.YtmebdlilbnadgaaGreatDoorStaAw
import Derived.Test.YtmebdlilbnadgaaGreatDoorStaZ
import Derived.Test.YtmebdlilbnadgaaGreatDoorBis
namespace Go.Proofs.YtmebdlilbnadgaaGreatDoor
open Go.RowKit
set_option linter.unusedSimpArgs false
set_option linter.unusedVariables false
set_option maxRecDepth 20000
attribute [local irreducible] nv wp win plainB validR valR canR mvE chkM codeC spr sprN chg cnt cntB ixB kept netS sumN dsum floG staX
/-! ## StationaryRight -/
theorem Brief6.bigS {n : Nat} {R : Nat → Rw} (h : Brief6 n R) : BigS n R := fun k hk => by have := h.2 k hk; omega
theorem brief_fzS {w : World} {b0 n : Nat} {A : Option Addr} {R : Nat → Rw} (h : RowA w b0 A n R) (hb : Brief6 n R) : FzL (n * 6 + 6 + 1) (vecQ n R) :=
  FzL.of_sz (fun s hs => by unfold vecQ; rw [if_pos hs]; have := hb.2 s hs; exact Sz_valR (h.okR' hs) (by omega) this.1 this.2) (fun s hs => by unfold vecQ; rw [if_neg (by omega)]) (by omega)
theorem brief_dist {w : World} {AM AD AV : Option Addr} {cm cd n : Nat} {c : Chn} {R : Nat → Rw} (h : ChI w w.heap.size AM cm AD cd c) (hS : Small c) (hv : RowA w w.heap.size AV n R) (hb : Brief6 n R) : DistS w AM cm AD cd c AV n R :=
  ⟨h, hS.sizP, hv, hb.bigS, by have := hb.1; omega, fun _ => (brief_fzS hv hb).more (by have := hb.1; omega)⟩
theorem accS_same {c : Chn} {w : World} {b0 n : Nat} {A : Option Addr} {R : Nat → Rw} (hv : RowA w b0 A n R) (h : c.codeB n R = 0) (h1 : c.ncl = 1) : c.accS n R = true ↔ SameR c.nd n (can c.pi) R := by
  obtain ⟨h0, hn, ha⟩ := Chn.codeB_0 h
  have ok := Chn.ok_iff.1 h0
  have e1 : c.accS n R = c.balB (vecQ n R) := by
    unfold Chn.accS
    rw [if_pos h, decide_eq_true h1, Bool.and_true]
  rw [e1]
  constructor
  · intro hs
    refine ⟨hn.symm, fun k hk => ?_⟩
    have hk' : k < n := by omega
    have h2 := Chn.pi_only ok h1 (Chn.bal_ok hs) k hk
    unfold can
    rw [← h2]
    unfold vecQ
    rw [if_pos hk']
    exact canR_valR (hv.okR' hk') (allV_at ha hk')
  · rintro ⟨-, hs⟩
    refine Chn.bal_yes (Chn.okB_congr ok (x := c.pi) (fun s hs' => ?_) (Chn.pi_ok ok h1))
    unfold vecQ
    rw [if_pos (by omega), ← hs s hs']
    exact (valR_canR _).symm
theorem accS_no {c : Chn} {n : Nat} {R : Nat → Rw} (h1 : c.ncl ≠ 1) : c.accS n R = false := by
  unfold Chn.accS
  rw [decide_eq_false h1, Bool.and_false]
  split <;> rfl
set_option maxHeartbeats 16000000 in
theorem stationaryRight_law {w : World} {AM AD AV : Option Addr} {cm cd n ca : Nat} {c : Chn} {R : Nat → Rw} (h : ChI w w.heap.size AM cm AD cd c) (hv : RowA w w.heap.size AV n R) :
    Calls Tryz.prog 5 #[cv c.st c.sr AM c.nm cm AD c.nd cd, .slice AV n ca] w fun e w' => e = .returned (.bool true) ∧ Below w.heap.size w w' := by
  have KF := Lib.hid (fun W (hb : Below w.heap.size w W) => valid52_any (h.below hb))
  have KB := Lib.hid (fun W (hb : Below w.heap.size w W) => brief52_any (c := ca) (hv.below hb))
  have KE := Lib.hid (fun (hf : FewP c) (h6 : Brief6 n R) W (hb : Below w.heap.size w W) => rerr52_any (ca := ca) (h.below hb) (hf.small h).sizP.ch ((hv.below hb).up hb.size) h6.bigS (by have := h6.1; omega))
  have hbA : Below w.heap.size w (w.alloc (.cells #[.int .i64 c.st, .int .i64 c.sr, .slice AM c.nm cm, .slice AD c.nd cd] 25)) := (Below.refl _ _).alloc (Nat.le_refl _) _
  have HBA := Lib.hid hbA
  have HI := Lib.hid h
  have HRV := Lib.hid hv
  clear h hv hbA
  go_enter Tryz.func5, Tryz.ntmps5
  (go_wp2_with fail; (with_reducible refine (KF.out _ HBA.out).mono ?_); rintro e w1 ⟨⟨bb, rfl, hbb⟩, hb1⟩; have hb1z := Below.size hb1; (try simp only [ZA, ZS, ZD, ZN] at hb1z); have hb1c0 := fun o => below_at hb1 (w.heap.size) o (by first | omega | (simp only [ZA, ZS, ZD, ZN]; omega)); have hb1f0 := fun o => below_fr hb1 (w.heap.size) o (by first | omega | (simp only [ZA, ZS, ZD, ZN]; omega)))
  have hB1 : Below w.heap.size w w1 := HBA.out.trans (hb1.mono (by simp))
  cases bb with
  | false =>
    clear hbb
    (go_wp2_with fail; (with_reducible refine (awake52_any _).mono ?_); rintro e w2 ⟨rfl, hb2⟩; have hb2z := Below.size hb2; (try simp only [ZA, ZS, ZD, ZN] at hb2z))
    go_wp2
    go_ret
    exact ⟨rfl, hB1.trans (hb2.mono hB1.size)⟩
  | true =>
    have HF := Lib.hid (hbb rfl)
    clear hbb
    have hw1 : w.heap.size < w1.heap.size := by have := hb1.size; simp at this; omega
    (go_wp2_with fail; (with_reducible refine (KB.out _ hB1).mono ?_); rintro e w2 ⟨⟨b2, rfl, hb2'⟩, hb2⟩; have hb2z := Below.size hb2; (try simp only [ZA, ZS, ZD, ZN] at hb2z); have hb2c0 := fun o => below_at hb2 (w.heap.size) o (by first | omega | (simp only [ZA, ZS, ZD, ZN]; omega)); have hb2f0 := fun o => below_fr hb2 (w.heap.size) o (by first | omega | (simp only [ZA, ZS, ZD, ZN]; omega)))
    have hB2 : Below w.heap.size w w2 := hB1.trans (hb2.mono hB1.size)
    cases b2 with
    | false =>
      clear hb2'
      (go_wp2_with fail; (with_reducible refine (awake52_any _).mono ?_); rintro e w3 ⟨rfl, hb3⟩; have hb3z := Below.size hb3; (try simp only [ZA, ZS, ZD, ZN] at hb3z))
      go_wp2
      go_ret
      exact ⟨rfl, hB2.trans (hb3.mono hB2.size)⟩
    | true =>
      have h6 := hb2' rfl
      clear hb2'
      have hS := HF.out.1.small HI.out
      have h0 := HF.out.2
      have ok := Chn.ok_iff.1 h0
      have hst := ok.st
      have hn9 := hS.nd ok
      have KE2 := Lib.hid (KE.out HF.out.1 h6)
      have hnp := Chn.ncl_pos ok
      have K3 : Hid (∀ W, Below w.heap.size w W → Calls Tryz.prog 19 #[cv c.st c.sr AM c.nm cm AD c.nd cd] W fun e w' => (∃ A d, e = .returned (.tuple #[.slice A c.ncl d, .nilIface])) ∧ Below W.heap.size W w') := fun W hb => (Closed_any (HI.out.below hb) hS.sizP).mono fun e w' hh => ⟨by
        have h1 := hh.1
        rw [h0, outS_0] at h1
        obtain ⟨A, d, e1, -⟩ := h1
        rw [errM_0] at e1
        exact ⟨A, d, e1⟩, hh.2⟩
      have K4 : c.codeB n R = 0 → ∀ W, Below w.heap.size w W → Calls Tryz.prog 26 #[cv c.st c.sr AM c.nm cm AD c.nd cd, .slice AV n ca] W fun e w' => e = .returned (.tuple #[.bool (c.accS n R), .nilIface]) ∧ Below W.heap.size W w' := fun hB W hb => by
        have := AcceptsS_any (ca := ca) (brief_dist (HI.out.below hb) hS ((HRV.out.below hb).up hb.size) h6)
        rw [hB, errM_0] at this
        exact this
      by_cases hB : c.codeB n R = 0
      · have K4' := Lib.hid (K4 hB)
        have KE3 : Hid (∀ W, Below w.heap.size w W → Calls Tryz.prog 25 #[cv c.st c.sr AM c.nm cm AD c.nd cd, .slice AV n ca] W fun e w' => e = .returned (.int .i64 0) ∧ Below W.heap.size W w') := fun W hb => by have := KE2.out W hb; rw [hB] at this; exact this
        clear KE KE2 K4
        by_cases h1 : c.ncl = 1
        · have KS : Hid (∀ W, Below w.heap.size w W → Calls Tryz.prog 13 #[cv c.st c.sr AM c.nm cm AD c.nd cd] W fun e w' => (∃ A d, e = .returned (.tuple #[.slice A c.nd d, .nilIface]) ∧ RowA w' w'.heap.size A c.nd (can c.pi)) ∧ Below W.heap.size W w') := fun W hb => solve_ok (HI.out.below hb) hS.sizP h0 h1
          have K5 : Hid (∀ W A d, Below w.heap.size w W → RowA W W.heap.size A c.nd (can c.pi) → Calls Tryz.prog 26 #[cv c.st c.sr AM c.nm cm AD c.nd cd, .slice A c.nd d] W fun e w' => e = .returned (.tuple #[.bool true, .nilIface]) ∧ Below W.heap.size W w') := by
            show ∀ _, _
            intro W A d hb hA
            have := AcceptsS_any (ca := d) (pi_dist (HI.out.below hb) hS ok hA)
            rw [Chn.pi_codeB h0, errM_0, show c.accS c.nd (can c.pi) = true by unfold Chn.accS; rw [if_pos (Chn.pi_codeB h0), decide_eq_true h1, Chn.pi_bal h0 h1]; rfl] at this
            exact this
          have KR := Lib.hid (fun W A b0 ca2 (hb : Below w.heap.size w W) (hA : RowA W b0 A c.nd (can c.pi)) => rats_anyB (c := ca2) (d := ca) hA (HRV.out.below hb) (by omega) (hS.pi_big ok c.nd))
          have HSame := Lib.hid (accS_same HRV.out hB h1)
          obtain ⟨XP, hXP⟩ : ∃ XP, XP = c.pi := ⟨_, rfl⟩
          obtain ⟨bX, hbX⟩ : ∃ bX, bX = c.accS n R := ⟨_, rfl⟩
          rw [← hXP] at KS K5 KR HSame
          rw [← hbX] at K4' HSame
          rw [h1] at K3
          clear hXP hbX h1 hB hst ok h0 hS h6 HF HI HRV KF KB HBA hnp
          (go_wp2_with fail; (with_reducible refine (KE3.out _ hB2).mono ?_); rintro e w3 ⟨rfl, hb3⟩; have hb3z := Below.size hb3; (try simp only [ZA, ZS, ZD, ZN] at hb3z); have hb3c0 := fun o => below_at hb3 (w.heap.size) o (by first | omega | (simp only [ZA, ZS, ZD, ZN]; omega)); have hb3f0 := fun o => below_fr hb3 (w.heap.size) o (by first | omega | (simp only [ZA, ZS, ZD, ZN]; omega)))
          have hB3 : Below w.heap.size w w3 := hB2.trans (hb3.mono hB2.size)
          (go_wp2_with fail; (with_reducible refine (awake52_any _).mono ?_); rintro e w4 ⟨rfl, hb4⟩; have hb4z := Below.size hb4; (try simp only [ZA, ZS, ZD, ZN] at hb4z); have hb4c0 := fun o => below_at hb4 (w.heap.size) o (by first | omega | (simp only [ZA, ZS, ZD, ZN]; omega)); have hb4f0 := fun o => below_fr hb4 (w.heap.size) o (by first | omega | (simp only [ZA, ZS, ZD, ZN]; omega)))
          have hB4 : Below w.heap.size w w4 := hB3.trans (hb4.mono hB3.size)
          (go_wp2_with fail; (with_reducible refine (K3.out _ hB4).mono ?_); rintro e w5 ⟨⟨A5, c5, rfl⟩, hb5⟩; have hb5z := Below.size hb5; (try simp only [ZA, ZS, ZD, ZN] at hb5z); have hb5c0 := fun o => below_at hb5 (w.heap.size) o (by first | omega | (simp only [ZA, ZS, ZD, ZN]; omega)); have hb5f0 := fun o => below_fr hb5 (w.heap.size) o (by first | omega | (simp only [ZA, ZS, ZD, ZN]; omega)))
          have hB5 : Below w.heap.size w w5 := hB4.trans (hb5.mono hB4.size)
          (go_wp2_with fail; (with_reducible refine (KS.out _ hB5).mono ?_); rintro e w6 ⟨⟨A6, c6, rfl, r6⟩, hb6⟩; have hb6z := Below.size hb6; (try simp only [ZA, ZS, ZD, ZN] at hb6z); have hb6c0 := fun o => below_at hb6 (w.heap.size) o (by first | omega | (simp only [ZA, ZS, ZD, ZN]; omega)); have hb6f0 := fun o => below_fr hb6 (w.heap.size) o (by first | omega | (simp only [ZA, ZS, ZD, ZN]; omega)))
          have hB6 : Below w.heap.size w w6 := hB5.trans (hb6.mono hB5.size)
          (go_wp2_with fail; (with_reducible refine (K4'.out _ hB6).mono ?_); rintro e w7 ⟨rfl, hb7⟩; have hb7z := Below.size hb7; (try simp only [ZA, ZS, ZD, ZN] at hb7z); have hb7c0 := fun o => below_at hb7 (w.heap.size) o (by first | omega | (simp only [ZA, ZS, ZD, ZN]; omega)); have hb7f0 := fun o => below_fr hb7 (w.heap.size) o (by first | omega | (simp only [ZA, ZS, ZD, ZN]; omega)))
          have hB7 : Below w.heap.size w w7 := hB6.trans (hb7.mono hB6.size)
          have R7 := Lib.hid ((r6.below hb7).up hb7.size)
          clear r6
          (go_wp2_with fail; (with_reducible refine (K5.out _ _ _ hB7 R7.out).mono ?_); rintro e w8 ⟨rfl, hb8⟩; have hb8z := Below.size hb8; (try simp only [ZA, ZS, ZD, ZN] at hb8z))
          have hB8 : Below w.heap.size w w8 := hB7.trans (hb8.mono hB7.size)
          (go_wp2_with fail; (with_reducible refine (KR.out _ _ _ _ hB8 (R7.out.below hb8)).mono ?_); rintro e w9 ⟨⟨b9, rfl, hb9'⟩, hb9⟩; have hb9z := Below.size hb9; (try simp only [ZA, ZS, ZD, ZN] at hb9z))
          have hB9 : Below w.heap.size w w9 := hB8.trans (hb9.mono hB8.size)
          have e5 : bX = b9 := by rw [Bool.eq_iff_iff, HSame.out, hb9']
          have e6 : (bX == b9) = true := by rw [e5]; simp
          clear e5 hb9' HSame
          go_wp2
          go_ret
          exact ⟨rfl, hB9⟩
        · have KS : Hid (∀ W, Below w.heap.size w W → Calls Tryz.prog 13 #[cv c.st c.sr AM c.nm cm AD c.nd cd] W fun e w' => (∃ A d, e = .returned (.tuple #[.slice A 0 d, .iface 41 (.int .i64 16)])) ∧ Below W.heap.size W w') := fun W hb => solve_no (HI.out.below hb) hS.sizP h0 h1
          have K4'' : Hid (∀ W, Below w.heap.size w W → Calls Tryz.prog 26 #[cv c.st c.sr AM c.nm cm AD c.nd cd, .slice AV n ca] W fun e w' => e = .returned (.tuple #[.bool false, .nilIface]) ∧ Below W.heap.size W w') := fun W hb => by have := K4'.out W hb; rw [accS_no h1] at this; exact this
          obtain ⟨n9, hn9'⟩ : ∃ n9, n9 = c.ncl := ⟨_, rfl⟩
          rw [← hn9'] at K3 h1 hnp
          have e1 : decide ((1 : Int) < (n9 : Int)) = true := by simp; omega
          have e2 : ((n9 : Int) == 0) = false := by simp; omega
          clear hn9' h1 hnp hB hst ok h0 hS h6 HF HI HRV KF KB HBA K4'
          (go_wp2_with fail; (with_reducible refine (KE3.out _ hB2).mono ?_); rintro e w3 ⟨rfl, hb3⟩; have hb3z := Below.size hb3; (try simp only [ZA, ZS, ZD, ZN] at hb3z); have hb3c0 := fun o => below_at hb3 (w.heap.size) o (by first | omega | (simp only [ZA, ZS, ZD, ZN]; omega)); have hb3f0 := fun o => below_fr hb3 (w.heap.size) o (by first | omega | (simp only [ZA, ZS, ZD, ZN]; omega)))
          have hB3 : Below w.heap.size w w3 := hB2.trans (hb3.mono hB2.size)
          (go_wp2_with fail; (with_reducible refine (awake52_any _).mono ?_); rintro e w4 ⟨rfl, hb4⟩; have hb4z := Below.size hb4; (try simp only [ZA, ZS, ZD, ZN] at hb4z); have hb4c0 := fun o => below_at hb4 (w.heap.size) o (by first | omega | (simp only [ZA, ZS, ZD, ZN]; omega)); have hb4f0 := fun o => below_fr hb4 (w.heap.size) o (by first | omega | (simp only [ZA, ZS, ZD, ZN]; omega)))
          have hB4 : Below w.heap.size w w4 := hB3.trans (hb4.mono hB3.size)
          (go_wp2_with fail; (with_reducible refine (K3.out _ hB4).mono ?_); rintro e w5 ⟨⟨A5, c5, rfl⟩, hb5⟩; have hb5z := Below.size hb5; (try simp only [ZA, ZS, ZD, ZN] at hb5z); have hb5c0 := fun o => below_at hb5 (w.heap.size) o (by first | omega | (simp only [ZA, ZS, ZD, ZN]; omega)); have hb5f0 := fun o => below_fr hb5 (w.heap.size) o (by first | omega | (simp only [ZA, ZS, ZD, ZN]; omega)))
          have hB5 : Below w.heap.size w w5 := hB4.trans (hb5.mono hB4.size)
          (go_wp2_with fail; (with_reducible refine (KS.out _ hB5).mono ?_); rintro e w6 ⟨⟨A6, c6, rfl⟩, hb6⟩; have hb6z := Below.size hb6; (try simp only [ZA, ZS, ZD, ZN] at hb6z); have hb6c0 := fun o => below_at hb6 (w.heap.size) o (by first | omega | (simp only [ZA, ZS, ZD, ZN]; omega)); have hb6f0 := fun o => below_fr hb6 (w.heap.size) o (by first | omega | (simp only [ZA, ZS, ZD, ZN]; omega)))
          have hB6 : Below w.heap.size w w6 := hB5.trans (hb6.mono hB5.size)
          (go_wp2_with fail; (with_reducible refine (K4''.out _ hB6).mono ?_); rintro e w7 ⟨rfl, hb7⟩; have hb7z := Below.size hb7; (try simp only [ZA, ZS, ZD, ZN] at hb7z))
          have hB7 : Below w.heap.size w w7 := hB6.trans (hb7.mono hB6.size)
          go_wp2_with fail
          (with_reducible refine (bis_eq _ _).mono ?_)
          rintro e _ ⟨rfl, rfl⟩
          go_wp2
          go_ret
          exact ⟨rfl, hB7⟩
      · obtain ⟨cb, hcb⟩ : ∃ cb, cb = c.codeB n R := ⟨_, rfl⟩
        rw [← hcb] at KE2 hB
        have e1 : (cb != 0) = true := by simpa using hB
        clear KE K4 K3 hcb hB hnp hst ok h0 hS h6 HF HI HRV KF KB HBA
        (go_wp2_with fail; (with_reducible refine (KE2.out _ hB2).mono ?_); rintro e w3 ⟨rfl, hb3⟩; have hb3z := Below.size hb3; (try simp only [ZA, ZS, ZD, ZN] at hb3z))
        have hB3 : Below w.heap.size w w3 := hB2.trans (hb3.mono hB2.size)
        (go_wp2_with fail; (with_reducible refine (awake52_any _).mono ?_); rintro e w4 ⟨rfl, hb4⟩; have hb4z := Below.size hb4; (try simp only [ZA, ZS, ZD, ZN] at hb4z))
        go_wp2
        go_ret
        exact ⟨rfl, hB3.trans (hb4.mono hB3.size)⟩
end Go.Proofs.YtmebdlilbnadgaaGreatDoor
