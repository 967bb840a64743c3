/- Contracts of functions and lemmas, used by the proofs of the given statements. No condition beyond those that each lemma names. -/
import Derived.Test.YtlncafhgmbhocaaGreatDoorLawLm0
namespace Go.Proofs.YtlncafhgmbhocaaGreatDoor
open Go.RowKit
set_option linter.unusedSimpArgs false
set_option linter.unusedVariables false
set_option maxRecDepth 20000
attribute [local irreducible] nv wp win plainB validR valR canR mvE chkM codeC smK alk badP nrm eqN eqZ blks memZ crsP itP rfn movB rateB
/-! ## LumpQuotients -/
set_option maxHeartbeats 16000000 in
theorem lumpQuotients_law {w : World} {AM AD AV : Option Addr} {cm cd n ca : Nat} {c : Chn} {P : Nat → Int} (h : ChI w w.heap.size AM cm AD cd c) (hv : PaI w AV n P) (hca : n ≤ ca) :
    Calls Tryz.prog 3 #[cv c.st c.sr AM c.nm cm AD c.nd cd, .slice AV n ca] w fun e w' => e = .returned (.bool true) ∧ Below w.heap.size w w' := by
  have KF := Lib.hid (fun W (hb : Below w.heap.size w W) => few_any (h.below hb))
  have HI := Lib.hid (fun W (hb : Below w.heap.size w W) => h.below hb)
  have HSm := Lib.hid (fun (hf : FewP c) => hf.small h)
  have HV := Lib.hid (fun W (hb : Below w.heap.size w W) => hv.below hb)
  have hbA : Below w.heap.size w (w.alloc (.cells #[.int .i64 c.st, .int .i64 c.sr, .slice AM c.nm cm, .slice AD c.nd cd] 25)) := (Below.refl _ _).alloc (Nat.le_refl _) _
  have HBA := Lib.hid hbA
  clear h hv hbA
  go_enter Tryz.func3, Tryz.ntmps3
  (go_wp2_with fail; (with_reducible refine (KF.out _ HBA.out).mono ?_); rintro e w1 ⟨⟨bb, rfl, hbb⟩, hb1⟩; have hb1z := Below.size hb1; (try simp only [ZA, ZS, ZD, ZN] at hb1z); have hb1c0 := fun o => below_at hb1 (w.heap.size) o (by first | omega | (simp only [ZA, ZS, ZD, ZN]; omega)); have hb1f0 := fun o => below_fr hb1 (w.heap.size) o (by first | omega | (simp only [ZA, ZS, ZD, ZN]; omega)))
  have hB1 : Below w.heap.size w w1 := HBA.out.trans (hb1.mono (by simp))
  cases bb with
  | false =>
    clear hbb
    (go_wp2_with fail; (with_reducible refine (awake51_any _).mono ?_); rintro e w2 ⟨rfl, hb2⟩; have hb2z := Below.size hb2; (try simp only [ZA, ZS, ZD, ZN] at hb2z))
    go_wp2
    go_ret
    exact ⟨rfl, hB1.trans (hb2.mono hB1.size)⟩
  | true =>
    have HF := Lib.hid (hbb rfl)
    have HS := Lib.hid (HSm.out (hbb rfl))
    clear hbb
    have hw1 : w.heap.size < w1.heap.size := by omega
    by_cases hn : n ≤ 300
    · have e1 : decide ((300 : Int) < (n : Int)) = false := by simp; omega
      have e2 : decide (300 < n) = false := by simp; omega
      have hni : (n : Int) ≤ 300 := by omega
      obtain ⟨X, hX⟩ : ∃ X, X = c.quoE n P := ⟨_, rfl⟩
      obtain ⟨cc, hcc⟩ : ∃ cc, cc = c.codeQ n P := ⟨_, rfl⟩
      have KQ : Hid (∀ W, Below w.heap.size w W → Calls Tryz.prog 12 #[cv c.st c.sr AM c.nm cm AD c.nd cd, .slice AV n ca] W fun e w' => AnsC errM cc X e w' ∧ Below W.heap.size W w') := fun W hb => by rw [hX, hcc]; exact lQuotient_any (HI.out W hb) HS.out.chS (HV.out W hb) (by omega) HS.out.smS
      have KR : Hid (∀ W, Below w.heap.size w W → Calls Tryz.prog 13 #[cv c.st c.sr AM c.nm cm AD c.nd cd, .slice AV n ca] W fun e w' => AnsC (.int .i64) cc X e w' ∧ Below W.heap.size W w') := fun W hb => by rw [hX, hcc]; exact lrQuotient_any (HI.out W hb) HS.out.chS (HV.out W hb) (by omega) hca HS.out.inS
      have HBD : Hid (X.nm ≤ 1000000 ∧ X.nd ≤ 1000000 ∧ ∀ k, k < X.nm → (X.R k).2.1.length ≤ 1000000 ∧ (X.R k).2.2.length ≤ 1000000) := by rw [hX]; exact quo_bd HS.out HF.out.nd n P
      have ecc : (cc == cc) = true := by simp
      clear hX hcc HF HS HSm HI HV KF
      (go_wp2_with fail; (with_reducible refine (awake51_any _).mono ?_); rintro e w2 ⟨rfl, hb2⟩; have hb2z := Below.size hb2; (try simp only [ZA, ZS, ZD, ZN] at hb2z); have hb2c0 := fun o => below_at hb2 (w.heap.size) o (by first | omega | (simp only [ZA, ZS, ZD, ZN]; omega)); have hb2f0 := fun o => below_fr hb2 (w.heap.size) o (by first | omega | (simp only [ZA, ZS, ZD, ZN]; omega)))
      have hB2 : Below w.heap.size w w2 := hB1.trans (hb2.mono hB1.size)
      (go_wp2_with fail; (with_reducible refine (KQ.out _ hB2).mono ?_); rintro e w3 ⟨⟨A3, a3, B3, b3, rfl, r3⟩, hb3⟩; have hb3z := Below.size hb3; (try simp only [ZA, ZS, ZD, ZN] at hb3z); have hb3c0 := fun o => below_at hb3 (w.heap.size) o (by first | omega | (simp only [ZA, ZS, ZD, ZN]; omega)); have hb3f0 := fun o => below_fr hb3 (w.heap.size) o (by first | omega | (simp only [ZA, ZS, ZD, ZN]; omega)))
      have hB3 : Below w.heap.size w w3 := hB2.trans (hb3.mono hB2.size)
      have h34 : Below w3.heap.size w3 (w3.alloc (.cells #[.int .i64 X.st, .int .i64 X.sr, .slice A3 X.nm a3, .slice B3 X.nd b3] 25)) := (Below.refl _ _).alloc (Nat.le_refl _) _
      have H34 := Lib.hid h34
      have hB4 := hB3.trans (h34.mono hB3.size)
      have HB4 := Lib.hid hB4
      have R3 := Lib.hid r3
      have hz3 := hB3.size
      clear r3 h34 hB4 KQ
      have hw3 : w.heap.size < w3.heap.size := by omega
      (have ooc := fun o i => below_at ((Below.refl w3.heap.size w3).alloc (Nat.le_refl _) o) (w.heap.size) i (by omega)); (have oof := fun o i => below_fr ((Below.refl w3.heap.size w3).alloc (Nat.le_refl _) o) (w.heap.size) i (by omega))
      (go_wp2_with fail; (with_reducible refine (KR.out _ HB4.out).mono ?_); rintro e w5 ⟨⟨A5, a5, B5, b5, rfl, r5⟩, hb5⟩; have hb5z := Below.size hb5; (try simp only [ZA, ZS, ZD, ZN] at hb5z); have hb5c0 := fun o => below_at hb5 (w.heap.size) o (by first | omega | (simp only [ZA, ZS, ZD, ZN]; omega)); have hb5f0 := fun o => below_fr hb5 (w.heap.size) o (by first | omega | (simp only [ZA, ZS, ZD, ZN]; omega)); have hb5c1 := fun o => below_at hb5 (w3.heap.size) o (by first | omega | (simp only [ZA, ZS, ZD, ZN]; omega)); have hb5f1 := fun o => below_fr hb5 (w3.heap.size) o (by first | omega | (simp only [ZA, ZS, ZD, ZN]; omega)))
      have h35 : Below w3.heap.size w3 w5 := H34.out.trans (hb5.mono (by simp))
      have hB5 : Below w.heap.size w w5 := HB4.out.trans (hb5.mono HB4.out.size)
      have h56 : Below w5.heap.size w5 (w5.alloc (.cells #[.int .i64 X.st, .int .i64 X.sr, .slice A5 X.nm a5, .slice B5 X.nd b5] 25)) := (Below.refl _ _).alloc (Nat.le_refl _) _
      have KC := Lib.hid (fun W (hb : Below w5.heap.size w5 W) => chain_same (a := a3) (b := b3) (a' := a5) (b' := b5) (R3.out.below (h35.trans (hb.mono h35.size))) (r5.below hb) HBD.out.1 HBD.out.2.1 HBD.out.2.2)
      have q0 : ∀ i, w5.cell? ⟨w3.heap.size, i, none⟩ = (#[.int .i64 X.st, .int .i64 X.sr, .slice A3 X.nm a3, .slice B3 X.nd b3] : Array Value)[i]? := fun i => by rw [hb5c1, World.cell?_alloc_at _ _ _ _ rfl]
      have q0a := q0 0
      have q0b := q0 1
      have q0c := q0 2
      have q0d := q0 3
      simp only [List.getElem?_toArray, List.getElem?_cons_zero, List.getElem?_cons_succ] at q0a q0b q0c q0d
      have hl5 : w3.heap.size < w5.heap.size := by have := hb5.size; simp at this; omega
      have HB5 := Lib.hid hB5
      have H56 := Lib.hid h56
      clear r5 KR q0 h35 h56 hB5
      (have ppc := fun o i => below_at ((Below.refl w5.heap.size w5).alloc (Nat.le_refl _) o) (w3.heap.size) i (by omega)); (have ppf := fun o i => below_fr ((Below.refl w5.heap.size w5).alloc (Nat.le_refl _) o) (w3.heap.size) i (by omega))
      go_wp2_with fail
      (with_reducible refine (bnum_e _ _).mono ?_)
      rintro e _ ⟨rfl, rfl⟩
      (go_wp2_with fail; (with_reducible refine (KC.out _ H56.out).mono ?_); rintro e w6 ⟨rfl, hb6⟩; have hb6z := Below.size hb6; (try simp only [ZA, ZS, ZD, ZN] at hb6z))
      go_wp2
      go_ret
      exact ⟨rfl, HB5.out.trans ((H56.out.trans (hb6.mono (by simp))).mono HB5.out.size)⟩
    · have e1 : decide ((300 : Int) < (n : Int)) = true := by simp; omega
      have e2 : decide (300 < n) = true := by simp; omega
      have hni : (300 : Int) < (n : Int) := by omega
      clear HF HS HSm HI HV KF
      (go_wp2_with fail; (with_reducible refine (awake51_any _).mono ?_); rintro e w2 ⟨rfl, hb2⟩; have hb2z := Below.size hb2; (try simp only [ZA, ZS, ZD, ZN] at hb2z))
      go_wp2
      go_ret
      exact ⟨rfl, hB1.trans (hb2.mono hB1.size)⟩
end Go.Proofs.YtlncafhgmbhocaaGreatDoor
