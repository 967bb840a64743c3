/- Contracts of functions and lemmas, used by the proofs of the given statements. No condition beyond those that each lemma names. -/
import Derived.Test.YtmebdlilbnadgaaGreatDoorStaAw
import Derived.Test.YtmebdlilbnadgaaGreatDoorStaRg
import Derived.Test.YtmebdlilbnadgaaGreatDoorDetW
import Derived.Test.YtmebdlilbnadgaaGreatDoorLawSt4
namespace Go.Proofs.YtmebdlilbnadgaaGreatDoor
open Go.RowKit
set_option linter.unusedSimpArgs false
set_option linter.unusedVariables false
set_option maxRecDepth 20000
attribute [local irreducible] nv wp win plainB validR valR canR mvE chkM codeC spr sprN chg cnt cntB ixB kept netS sumN dsum floG staX
/-! ## StationaryTells -/
theorem DistS.dwn_sz {w : World} {AM AD AV : Option Addr} {cm cd n : Nat} {c : Chn} {R : Nat → Rw} (h : DistS w AM cm AD cd c AV n R) : Sz 220000040 (c.dwnV n R) := by
  unfold Chn.dwnV
  split
  · rename_i hC
    obtain ⟨hB, -⟩ := Chn.codeCe_0 hC
    obtain ⟨h0, hnn, -⟩ := Chn.codeB_0 hB
    have ok := Chn.ok_iff.1 h0
    have hn9 := h.sm.nd ok
    obtain ⟨-, -, -, -, b5⟩ := h.sm.bal ok _ _ (h.fz hB)
    exact b5 n (by omega) _
  · exact Sz.zero (by omega)
theorem DistS.frq_sz {w : World} {AM AD AV : Option Addr} {cm cd n : Nat} {c : Chn} {R : Nat → Rw} (h : DistS w AM cm AD cd c AV n R) : Sz 220000040 (c.frqV n R) := by
  unfold Chn.frqV
  split
  · rename_i hC
    obtain ⟨hB, -⟩ := Chn.codeCe_0 hC
    obtain ⟨h0, hnn, -⟩ := Chn.codeB_0 hB
    have ok := Chn.ok_iff.1 h0
    obtain ⟨-, -, -, b4, -⟩ := h.sm.bal ok _ _ (h.fz hB)
    exact b4 c.nm (Nat.le_refl _) _
  · exact Sz.zero (by omega)
set_option maxHeartbeats 16000000 in
theorem stationaryTells_law {w : World} {AM AD AV : Option Addr} {cm cd n ca : Nat} {c : Chn} {R : Nat → Rw} (h : ChI w w.heap.size AM cm AD cd c) (hv : RowA w w.heap.size AV n R) :
    Calls Tryz.prog 7 #[cv c.st c.sr AM c.nm cm AD c.nd cd, .slice AV n ca] w fun e w' => e = .returned (.bool true) ∧ Below w.heap.size w w' := by
  have KF := Lib.hid (fun W (hb : Below w.heap.size w W) => few_any (h.below hb))
  have KB := Lib.hid (fun W (hb : Below w.heap.size w W) => brief52_any (c := ca) (hv.below hb))
  have HDi := Lib.hid (fun (hf : FewP c) (h6 : Brief6 n R) W (hb : Below w.heap.size w W) => brief_dist (h.below hb) (hf.small h) ((hv.below hb).up hb.size) h6)
  have hbA : Below w.heap.size w (w.alloc (.cells #[.int .i64 c.st, .int .i64 c.sr, .slice AM c.nm cm, .slice AD c.nd cd] 25)) := (Below.refl _ _).alloc (Nat.le_refl _) _
  have HBA := Lib.hid hbA
  clear h hv hbA
  go_enter Tryz.func7, Tryz.ntmps7
  (go_wp2_with fail; (with_reducible refine (KF.out _ HBA.out).mono ?_); rintro e w1 ⟨⟨bb, rfl, hbb⟩, hb1⟩; have hb1z := Below.size hb1; (try simp only [ZA, ZS, ZD, ZN] at hb1z); have hb1c0 := fun o => below_at hb1 (w.heap.size) o (by first | omega | (simp only [ZA, ZS, ZD, ZN]; omega)); have hb1f0 := fun o => below_fr hb1 (w.heap.size) o (by first | omega | (simp only [ZA, ZS, ZD, ZN]; omega)))
  have hB1 : Below w.heap.size w w1 := HBA.out.trans (hb1.mono (by simp))
  cases bb with
  | false =>
    clear hbb
    (go_wp2_with fail; (with_reducible refine (awake52_any _).mono ?_); rintro e w2 ⟨rfl, hb2⟩; have hb2z := Below.size hb2; (try simp only [ZA, ZS, ZD, ZN] at hb2z))
    go_wp2
    go_ret
    exact ⟨rfl, hB1.trans (hb2.mono hB1.size)⟩
  | true =>
    have HF := Lib.hid (hbb rfl)
    clear hbb
    have hw1 : w.heap.size < w1.heap.size := by have := hb1.size; simp at this; omega
    (go_wp2_with fail; (with_reducible refine (KB.out _ hB1).mono ?_); rintro e w2 ⟨⟨b2, rfl, hb2'⟩, hb2⟩; have hb2z := Below.size hb2; (try simp only [ZA, ZS, ZD, ZN] at hb2z); have hb2c0 := fun o => below_at hb2 (w.heap.size) o (by first | omega | (simp only [ZA, ZS, ZD, ZN]; omega)); have hb2f0 := fun o => below_fr hb2 (w.heap.size) o (by first | omega | (simp only [ZA, ZS, ZD, ZN]; omega)))
    have hB2 : Below w.heap.size w w2 := hB1.trans (hb2.mono hB1.size)
    cases b2 with
    | false =>
      clear hb2'
      (go_wp2_with fail; (with_reducible refine (awake52_any _).mono ?_); rintro e w3 ⟨rfl, hb3⟩; have hb3z := Below.size hb3; (try simp only [ZA, ZS, ZD, ZN] at hb3z))
      go_wp2
      go_ret
      exact ⟨rfl, hB2.trans (hb3.mono hB2.size)⟩
    | true =>
      have HD := Lib.hid (HDi.out HF.out (hb2' rfl))
      clear hb2' KF KB HDi
      have hszx := (HD.out _ hB2).dwn_sz
      have hszy := (HD.out _ hB2).frq_sz
      obtain ⟨cb, hcb⟩ : ∃ cb, cb = c.codeB n R := ⟨_, rfl⟩
      obtain ⟨ce, hce⟩ : ∃ ce, ce = c.codeCe n R := ⟨_, rfl⟩
      obtain ⟨va, hva⟩ : ∃ va, va = c.balV n R := ⟨_, rfl⟩
      obtain ⟨vb, hvb⟩ : ∃ vb, vb = c.accS n R := ⟨_, rfl⟩
      obtain ⟨vd, hvd⟩ : ∃ vd, vd = c.detV n R := ⟨_, rfl⟩
      obtain ⟨vx, hvx⟩ : ∃ vx, vx = c.dwnV n R := ⟨_, rfl⟩
      obtain ⟨vy, hvy⟩ : ∃ vy, vy = c.frqV n R := ⟨_, rfl⟩
      have K4 : Hid (∀ W, Below w.heap.size w W → Calls Tryz.prog 27 #[cv c.st c.sr AM c.nm cm AD c.nd cd, .slice AV n ca] W fun e w' => e = .returned (.tuple #[.bool va, errM cb]) ∧ Below W.heap.size W w') := fun W hb => by rw [hva, hcb]; exact Balanced_any (HD.out W hb)
      have K5 : Hid (∀ W, Below w.heap.size w W → Calls Tryz.prog 26 #[cv c.st c.sr AM c.nm cm AD c.nd cd, .slice AV n ca] W fun e w' => e = .returned (.tuple #[.bool vb, errM cb]) ∧ Below W.heap.size W w') := fun W hb => by rw [hvb, hcb]; exact AcceptsS_any (HD.out W hb)
      have K6 : Hid (∀ W, Below w.heap.size w W → Calls Tryz.prog 28 #[cv c.st c.sr AM c.nm cm AD c.nd cd, .slice AV n ca] W fun e w' => e = .returned (.tuple #[.bool vd, errM cb]) ∧ Below W.heap.size W w') := fun W hb => by rw [hvd, hcb]; exact Detailed_any (HD.out W hb)
      have K7 : Hid (∀ W, Below w.heap.size w W → Calls Tryz.prog 31 #[cv c.st c.sr AM c.nm cm AD c.nd cd, .slice AV n ca] W fun e w' => AnsQ errM vx ce e w' ∧ Below W.heap.size W w') := fun W hb => by rw [hvx, hce]; exact Down_any (HD.out W hb)
      have K8 : Hid (∀ W, Below w.heap.size w W → Calls Tryz.prog 15 #[cv c.st c.sr AM c.nm cm AD c.nd cd, .slice AV n ca] W fun e w' => AnsQ errM vy ce e w' ∧ Below W.heap.size W w') := fun W hb => by rw [hvy, hce]; exact Frequency_any (HD.out W hb)
      have K9 : Hid (∀ W, Below w.heap.size w W → Calls Tryz.prog 32 #[cv c.st c.sr AM c.nm cm AD c.nd cd, .slice AV n ca] W fun e w' => e = .returned (.tuple #[.bool va, .int .i64 cb]) ∧ Below W.heap.size W w') := fun W hb => by rw [hva, hcb]; exact rBalanced_any (HD.out W hb)
      have K10 : Hid (∀ W, Below w.heap.size w W → Calls Tryz.prog 33 #[cv c.st c.sr AM c.nm cm AD c.nd cd, .slice AV n ca] W fun e w' => e = .returned (.tuple #[.bool vb, .int .i64 cb]) ∧ Below W.heap.size W w') := fun W hb => by rw [hvb, hcb]; exact rAcceptsS_any (HD.out W hb)
      have K11 : Hid (∀ W, Below w.heap.size w W → Calls Tryz.prog 34 #[cv c.st c.sr AM c.nm cm AD c.nd cd, .slice AV n ca] W fun e w' => e = .returned (.tuple #[.bool vd, .int .i64 cb]) ∧ Below W.heap.size W w') := fun W hb => by rw [hvd, hcb]; exact rDetailed_any (HD.out W hb)
      have K12 : Hid (∀ W, Below w.heap.size w W → Calls Tryz.prog 35 #[cv c.st c.sr AM c.nm cm AD c.nd cd, .slice AV n ca] W fun e w' => AnsQ intV vx ce e w' ∧ Below W.heap.size W w') := fun W hb => by rw [hvx, hce]; exact rDown_any (HD.out W hb)
      have K13 : Hid (∀ W, Below w.heap.size w W → Calls Tryz.prog 36 #[cv c.st c.sr AM c.nm cm AD c.nd cd, .slice AV n ca] W fun e w' => AnsQ intV vy ce e w' ∧ Below W.heap.size W w') := fun W hb => by rw [hvy, hce]; exact rFrequency_any (HD.out W hb)
      rw [← hvx] at hszx
      rw [← hvy] at hszy
      obtain ⟨M, hM⟩ : ∃ M, M = 220000040 := ⟨_, rfl⟩
      rw [← hM] at hszx hszy
      have HLX := Lib.hid (Sz_canR hszx)
      have HLY := Lib.hid (Sz_canR hszy)
      have hM2 : M ≤ 1000000000 := by omega
      have ecb : (cb == cb) = true := by simp
      have ece : (ce == ce) = true := by simp
      have eva : (va == va) = true := by simp
      have evb : (vb == vb) = true := by simp
      have evd : (vd == vd) = true := by simp
      clear hcb hce hva hvb hvd hvx hvy hszx hszy hM HD HF
      (go_wp2_with fail; (with_reducible refine (awake52_any _).mono ?_); rintro e w3 ⟨rfl, hb3⟩; have hb3z := Below.size hb3; (try simp only [ZA, ZS, ZD, ZN] at hb3z); have hb3c0 := fun o => below_at hb3 (w.heap.size) o (by first | omega | (simp only [ZA, ZS, ZD, ZN]; omega)); have hb3f0 := fun o => below_fr hb3 (w.heap.size) o (by first | omega | (simp only [ZA, ZS, ZD, ZN]; omega)))
      have hB3 : Below w.heap.size w w3 := hB2.trans (hb3.mono hB2.size)
      (go_wp2_with fail; (with_reducible refine (K4.out _ hB3).mono ?_); rintro e w4 ⟨rfl, hb4⟩; have hb4z := Below.size hb4; (try simp only [ZA, ZS, ZD, ZN] at hb4z); have hb4c0 := fun o => below_at hb4 (w.heap.size) o (by first | omega | (simp only [ZA, ZS, ZD, ZN]; omega)); have hb4f0 := fun o => below_fr hb4 (w.heap.size) o (by first | omega | (simp only [ZA, ZS, ZD, ZN]; omega)))
      have hB4 : Below w.heap.size w w4 := hB3.trans (hb4.mono hB3.size)
      (go_wp2_with fail; (with_reducible refine (K5.out _ hB4).mono ?_); rintro e w5 ⟨rfl, hb5⟩; have hb5z := Below.size hb5; (try simp only [ZA, ZS, ZD, ZN] at hb5z); have hb5c0 := fun o => below_at hb5 (w.heap.size) o (by first | omega | (simp only [ZA, ZS, ZD, ZN]; omega)); have hb5f0 := fun o => below_fr hb5 (w.heap.size) o (by first | omega | (simp only [ZA, ZS, ZD, ZN]; omega)))
      have hB5 : Below w.heap.size w w5 := hB4.trans (hb5.mono hB4.size)
      (go_wp2_with fail; (with_reducible refine (K6.out _ hB5).mono ?_); rintro e w6 ⟨rfl, hb6⟩; have hb6z := Below.size hb6; (try simp only [ZA, ZS, ZD, ZN] at hb6z); have hb6c0 := fun o => below_at hb6 (w.heap.size) o (by first | omega | (simp only [ZA, ZS, ZD, ZN]; omega)); have hb6f0 := fun o => below_fr hb6 (w.heap.size) o (by first | omega | (simp only [ZA, ZS, ZD, ZN]; omega)))
      have hB6 : Below w.heap.size w w6 := hB5.trans (hb6.mono hB5.size)
      (go_wp2_with fail; (with_reducible refine (K7.out _ hB6).mono ?_); rintro e w7 ⟨⟨v7, rfl, r7⟩, hb7⟩; have hb7z := Below.size hb7; (try simp only [ZA, ZS, ZD, ZN] at hb7z); have hb7c0 := fun o => below_at hb7 (w.heap.size) o (by first | omega | (simp only [ZA, ZS, ZD, ZN]; omega)); have hb7f0 := fun o => below_fr hb7 (w.heap.size) o (by first | omega | (simp only [ZA, ZS, ZD, ZN]; omega)))
      obtain ⟨s7, A7, n7, c7, B7, m7, d7, rfl⟩ := r7.form
      have hB7 : Below w.heap.size w w7 := hB6.trans (hb7.mono hB6.size)
      have hw7 : w.heap.size < w7.heap.size := by have := hb2.size; have := hb3.size; have := hb4.size; have := hb5.size; have := hb6.size; have := hb7.size; omega
      have u0 : ∀ i, w7.cell? ⟨w.heap.size, i, none⟩ = (w.alloc (.cells #[.int .i64 c.st, .int .i64 c.sr, .slice AM c.nm cm, .slice AD c.nd cd] 25)).cell? ⟨w.heap.size, i, none⟩ := fun i => by rw [hb7c0, hb6c0, hb5c0, hb4c0, hb3c0, hb2c0, hb1c0]
      have y0 : w7.cell? ⟨w.heap.size, 0, none⟩ = some (.int .i64 c.st) := by rw [u0]; simp
      have y1 : w7.cell? ⟨w.heap.size, 1, none⟩ = some (.int .i64 c.sr) := by rw [u0]; simp
      have y2 : w7.cell? ⟨w.heap.size, 2, none⟩ = some (.slice AM c.nm cm) := by rw [u0]; simp
      have y3 : w7.cell? ⟨w.heap.size, 3, none⟩ = some (.slice AD c.nd cd) := by rw [u0]; simp
      clear u0 hb1 hb2 hb3 hb4 hb5 hb6 hb7 hb1c0 hb2c0 hb3c0 hb4c0 hb5c0 hb6c0 hb7c0 hb1f0 hb2f0 hb3f0 hb4f0 hb5f0 hb6f0 hb7f0 hB1 hB2 hB3 hB4 hB5 hB6
      have hB7a : Below w.heap.size w (w7.alloc (.cells #[.bool s7, .slice A7 n7 c7, .slice B7 m7 d7] 30)) := hB7.alloc hB7.size _
      (have o7c := fun o i => below_at ((Below.refl w7.heap.size w7).alloc (Nat.le_refl _) o) (w.heap.size) i (by omega)); (have o7f := fun o i => below_fr ((Below.refl w7.heap.size w7).alloc (Nat.le_refl _) o) (w.heap.size) i (by omega))
      (go_wp2_with fail; (with_reducible refine (K8.out _ hB7a).mono ?_); rintro e w8 ⟨⟨v8, rfl, r8⟩, hb8⟩; have hb8z := Below.size hb8; (try simp only [ZA, ZS, ZD, ZN] at hb8z); have hb8c0 := fun o => below_at hb8 (w.heap.size) o (by first | omega | (simp only [ZA, ZS, ZD, ZN]; omega)); have hb8f0 := fun o => below_fr hb8 (w.heap.size) o (by first | omega | (simp only [ZA, ZS, ZD, ZN]; omega)); have hb8c1 := fun o => below_at hb8 (w7.heap.size) o (by first | omega | (simp only [ZA, ZS, ZD, ZN]; omega)); have hb8f1 := fun o => below_fr hb8 (w7.heap.size) o (by first | omega | (simp only [ZA, ZS, ZD, ZN]; omega)))
      obtain ⟨s8, A8, n8, c8, B8, m8, d8, rfl⟩ := r8.form
      have h78 : Below w7.heap.size w7 w8 := ((Below.refl _ _).alloc (Nat.le_refl _) _).trans (hb8.mono (by simp))
      have hB8 : Below w.heap.size w w8 := hB7.trans (h78.mono hB7.size)
      have hw8 : w7.heap.size < w8.heap.size := by have := hb8.size; simp at this; omega
      have x0 : w8.cell? ⟨w7.heap.size, 0, none⟩ = some (.bool s7) := by rw [hb8c1]; simp
      have x1 : w8.cell? ⟨w7.heap.size, 1, none⟩ = some (.slice A7 n7 c7) := by rw [hb8c1]; simp
      have x2 : w8.cell? ⟨w7.heap.size, 2, none⟩ = some (.slice B7 m7 d7) := by rw [hb8c1]; simp
      have y0' := (h78.cell (p := ⟨w.heap.size, 0, none⟩) hw7).trans y0
      have y1' := (h78.cell (p := ⟨w.heap.size, 1, none⟩) hw7).trans y1
      have y2' := (h78.cell (p := ⟨w.heap.size, 2, none⟩) hw7).trans y2
      have y3' := (h78.cell (p := ⟨w.heap.size, 3, none⟩) hw7).trans y3
      have R7 := Lib.hid r7
      clear r7 hb8 hb8c0 hb8c1 hb8f0 hb8f1 o7c o7f y0 y1 y2 y3 hB7a
      have H78 := Lib.hid h78
      clear h78
      have hB8a : Below w.heap.size w (w8.alloc (.cells #[.bool s8, .slice A8 n8 c8, .slice B8 m8 d8] 30)) := hB8.alloc hB8.size _
      have hww8 : w.heap.size < w8.heap.size := by omega
      (have o8c := fun o i => below_at ((Below.refl w8.heap.size w8).alloc (Nat.le_refl _) o) (w.heap.size) i (by omega)); (have o8f := fun o i => below_fr ((Below.refl w8.heap.size w8).alloc (Nat.le_refl _) o) (w.heap.size) i (by omega))
      (have p8c := fun o i => below_at ((Below.refl w8.heap.size w8).alloc (Nat.le_refl _) o) (w7.heap.size) i (by omega)); (have p8f := fun o i => below_fr ((Below.refl w8.heap.size w8).alloc (Nat.le_refl _) o) (w7.heap.size) i (by omega))
      (go_wp2_with fail; (with_reducible refine (K9.out _ hB8a).mono ?_); rintro e w9 ⟨rfl, hb9⟩; have hb9z := Below.size hb9; (try simp only [ZA, ZS, ZD, ZN] at hb9z); have hb9c0 := fun o => below_at hb9 (w.heap.size) o (by first | omega | (simp only [ZA, ZS, ZD, ZN]; omega)); have hb9f0 := fun o => below_fr hb9 (w.heap.size) o (by first | omega | (simp only [ZA, ZS, ZD, ZN]; omega)); have hb9c1 := fun o => below_at hb9 (w7.heap.size) o (by first | omega | (simp only [ZA, ZS, ZD, ZN]; omega)); have hb9f1 := fun o => below_fr hb9 (w7.heap.size) o (by first | omega | (simp only [ZA, ZS, ZD, ZN]; omega)); have hb9c2 := fun o => below_at hb9 (w8.heap.size) o (by first | omega | (simp only [ZA, ZS, ZD, ZN]; omega)); have hb9f2 := fun o => below_fr hb9 (w8.heap.size) o (by first | omega | (simp only [ZA, ZS, ZD, ZN]; omega)))
      have h89 : Below w8.heap.size w8 w9 := ((Below.refl _ _).alloc (Nat.le_refl _) _).trans (hb9.mono (by simp))
      have hB9 : Below w.heap.size w w9 := hB8.trans (h89.mono hB8.size)
      have hw9 : w8.heap.size < w9.heap.size := by have := hb9.size; simp at this; omega
      (go_wp2_with fail; (with_reducible refine (K10.out _ hB9).mono ?_); rintro e w10 ⟨rfl, hb10⟩; have hb10z := Below.size hb10; (try simp only [ZA, ZS, ZD, ZN] at hb10z); have hb10c0 := fun o => below_at hb10 (w.heap.size) o (by first | omega | (simp only [ZA, ZS, ZD, ZN]; omega)); have hb10f0 := fun o => below_fr hb10 (w.heap.size) o (by first | omega | (simp only [ZA, ZS, ZD, ZN]; omega)); have hb10c1 := fun o => below_at hb10 (w7.heap.size) o (by first | omega | (simp only [ZA, ZS, ZD, ZN]; omega)); have hb10f1 := fun o => below_fr hb10 (w7.heap.size) o (by first | omega | (simp only [ZA, ZS, ZD, ZN]; omega)); have hb10c2 := fun o => below_at hb10 (w8.heap.size) o (by first | omega | (simp only [ZA, ZS, ZD, ZN]; omega)); have hb10f2 := fun o => below_fr hb10 (w8.heap.size) o (by first | omega | (simp only [ZA, ZS, ZD, ZN]; omega)))
      have hB10 : Below w.heap.size w w10 := hB9.trans (hb10.mono hB9.size)
      (go_wp2_with fail; (with_reducible refine (K11.out _ hB10).mono ?_); rintro e w11 ⟨rfl, hb11⟩; have hb11z := Below.size hb11; (try simp only [ZA, ZS, ZD, ZN] at hb11z); have hb11c0 := fun o => below_at hb11 (w.heap.size) o (by first | omega | (simp only [ZA, ZS, ZD, ZN]; omega)); have hb11f0 := fun o => below_fr hb11 (w.heap.size) o (by first | omega | (simp only [ZA, ZS, ZD, ZN]; omega)); have hb11c1 := fun o => below_at hb11 (w7.heap.size) o (by first | omega | (simp only [ZA, ZS, ZD, ZN]; omega)); have hb11f1 := fun o => below_fr hb11 (w7.heap.size) o (by first | omega | (simp only [ZA, ZS, ZD, ZN]; omega)); have hb11c2 := fun o => below_at hb11 (w8.heap.size) o (by first | omega | (simp only [ZA, ZS, ZD, ZN]; omega)); have hb11f2 := fun o => below_fr hb11 (w8.heap.size) o (by first | omega | (simp only [ZA, ZS, ZD, ZN]; omega)))
      have hB11 : Below w.heap.size w w11 := hB10.trans (hb11.mono hB10.size)
      (go_wp2_with fail; (with_reducible refine (K12.out _ hB11).mono ?_); rintro e w12 ⟨⟨v12, rfl, r12⟩, hb12⟩; have hb12z := Below.size hb12; (try simp only [ZA, ZS, ZD, ZN] at hb12z); have hb12c0 := fun o => below_at hb12 (w.heap.size) o (by first | omega | (simp only [ZA, ZS, ZD, ZN]; omega)); have hb12f0 := fun o => below_fr hb12 (w.heap.size) o (by first | omega | (simp only [ZA, ZS, ZD, ZN]; omega)); have hb12c1 := fun o => below_at hb12 (w7.heap.size) o (by first | omega | (simp only [ZA, ZS, ZD, ZN]; omega)); have hb12f1 := fun o => below_fr hb12 (w7.heap.size) o (by first | omega | (simp only [ZA, ZS, ZD, ZN]; omega)); have hb12c2 := fun o => below_at hb12 (w8.heap.size) o (by first | omega | (simp only [ZA, ZS, ZD, ZN]; omega)); have hb12f2 := fun o => below_fr hb12 (w8.heap.size) o (by first | omega | (simp only [ZA, ZS, ZD, ZN]; omega)))
      obtain ⟨s12, A12, n12, c12, B12, m12, d12, rfl⟩ := r12.form
      have hB12 : Below w.heap.size w w12 := hB11.trans (hb12.mono hB11.size)
      have h812 : Below w8.heap.size w8 w12 := ((h89.trans (hb10.mono h89.size)).trans (hb11.mono (by have := h89.size; have := hb10.size; omega))).trans (hb12.mono (by have := h89.size; have := hb10.size; have := hb11.size; omega))
      have z0 : w12.cell? ⟨w8.heap.size, 0, none⟩ = some (.bool s8) := by rw [hb12c2, hb11c2, hb10c2, hb9c2]; simp
      have z1 : w12.cell? ⟨w8.heap.size, 1, none⟩ = some (.slice A8 n8 c8) := by rw [hb12c2, hb11c2, hb10c2, hb9c2]; simp
      have z2 : w12.cell? ⟨w8.heap.size, 2, none⟩ = some (.slice B8 m8 d8) := by rw [hb12c2, hb11c2, hb10c2, hb9c2]; simp
      have hw12 : w8.heap.size < w12.heap.size := by have := hb10.size; have := hb11.size; have := hb12.size; omega
      have X0 := (h812.cell (p := ⟨w7.heap.size, 0, none⟩) hw8).trans x0
      have X1 := (h812.cell (p := ⟨w7.heap.size, 1, none⟩) hw8).trans x1
      have X2 := (h812.cell (p := ⟨w7.heap.size, 2, none⟩) hw8).trans x2
      have Y0 := (h812.cell (p := ⟨w.heap.size, 0, none⟩) hww8).trans y0'
      have Y1 := (h812.cell (p := ⟨w.heap.size, 1, none⟩) hww8).trans y1'
      have Y2 := (h812.cell (p := ⟨w.heap.size, 2, none⟩) hww8).trans y2'
      have Y3 := (h812.cell (p := ⟨w.heap.size, 3, none⟩) hww8).trans y3'
      have R8 := Lib.hid r8
      have R12 := Lib.hid r12
      have H812 := Lib.hid h812
      clear r8 r12 h812 h89 hb9 hb10 hb11 hb12 hb9c0 hb9c1 hb9c2 hb10c0 hb10c1 hb10c2 hb11c0 hb11c1 hb11c2 hb12c0 hb12c1 hb12c2 hb9f0 hb9f1 hb9f2 hb10f0 hb10f1 hb10f2 hb11f0 hb11f1 hb11f2 hb12f0 hb12f1 hb12f2 o8c o8f p8c p8f x0 x1 x2 y0' y1' y2' y3' hB8a hB9 hB10 hB11
      have hB12a : Below w.heap.size w (w12.alloc (.cells #[.bool s12, .slice A12 n12 c12, .slice B12 m12 d12] 30)) := hB12.alloc hB12.size _
      have hww12 : w.heap.size < w12.heap.size := by omega
      have hw712 : w7.heap.size < w12.heap.size := by omega
      (have o12c := fun o i => below_at ((Below.refl w12.heap.size w12).alloc (Nat.le_refl _) o) (w.heap.size) i (by omega)); (have o12f := fun o i => below_fr ((Below.refl w12.heap.size w12).alloc (Nat.le_refl _) o) (w.heap.size) i (by omega))
      (have p12c := fun o i => below_at ((Below.refl w12.heap.size w12).alloc (Nat.le_refl _) o) (w7.heap.size) i (by omega)); (have p12f := fun o i => below_fr ((Below.refl w12.heap.size w12).alloc (Nat.le_refl _) o) (w7.heap.size) i (by omega))
      (have q12c := fun o i => below_at ((Below.refl w12.heap.size w12).alloc (Nat.le_refl _) o) (w8.heap.size) i (by omega)); (have q12f := fun o i => below_fr ((Below.refl w12.heap.size w12).alloc (Nat.le_refl _) o) (w8.heap.size) i (by omega))
      (go_wp2_with fail; (with_reducible refine (K13.out _ hB12a).mono ?_); rintro e w13 ⟨⟨v13, rfl, r13⟩, hb13⟩; have hb13z := Below.size hb13; (try simp only [ZA, ZS, ZD, ZN] at hb13z); have hb13c0 := fun o => below_at hb13 (w7.heap.size) o (by first | omega | (simp only [ZA, ZS, ZD, ZN]; omega)); have hb13f0 := fun o => below_fr hb13 (w7.heap.size) o (by first | omega | (simp only [ZA, ZS, ZD, ZN]; omega)); have hb13c1 := fun o => below_at hb13 (w8.heap.size) o (by first | omega | (simp only [ZA, ZS, ZD, ZN]; omega)); have hb13f1 := fun o => below_fr hb13 (w8.heap.size) o (by first | omega | (simp only [ZA, ZS, ZD, ZN]; omega)); have hb13c2 := fun o => below_at hb13 (w12.heap.size) o (by first | omega | (simp only [ZA, ZS, ZD, ZN]; omega)); have hb13f2 := fun o => below_fr hb13 (w12.heap.size) o (by first | omega | (simp only [ZA, ZS, ZD, ZN]; omega)))
      obtain ⟨s13, A13, n13, c13, B13, m13, d13, rfl⟩ := r13.form
      have h1213 : Below w12.heap.size w12 w13 := ((Below.refl _ _).alloc (Nat.le_refl _) _).trans (hb13.mono (by simp))
      have hB13 : Below w.heap.size w w13 := hB12.trans (h1213.mono hB12.size)
      have hw13 : w12.heap.size < w13.heap.size := by have := hb13.size; simp at this; omega
      have t0 : w13.cell? ⟨w12.heap.size, 0, none⟩ = some (.bool s12) := by rw [hb13c2]; simp
      have t1 : w13.cell? ⟨w12.heap.size, 1, none⟩ = some (.slice A12 n12 c12) := by rw [hb13c2]; simp
      have t2 : w13.cell? ⟨w12.heap.size, 2, none⟩ = some (.slice B12 m12 d12) := by rw [hb13c2]; simp
      have XX0 := (h1213.cell (p := ⟨w7.heap.size, 0, none⟩) hw712).trans X0
      have XX1 := (h1213.cell (p := ⟨w7.heap.size, 1, none⟩) hw712).trans X1
      have XX2 := (h1213.cell (p := ⟨w7.heap.size, 2, none⟩) hw712).trans X2
      have ZZ0 := (h1213.cell (p := ⟨w8.heap.size, 0, none⟩) hw12).trans z0
      have ZZ1 := (h1213.cell (p := ⟨w8.heap.size, 1, none⟩) hw12).trans z1
      have ZZ2 := (h1213.cell (p := ⟨w8.heap.size, 2, none⟩) hw12).trans z2
      have h713 : Below w7.heap.size w7 w13 := (H78.out.trans (H812.out.mono (by omega))).trans (h1213.mono (by omega))
      have h813 : Below w8.heap.size w8 w13 := H812.out.trans (h1213.mono (by omega))
      have hz13 : w7.heap.size ≤ w13.heap.size ∧ w8.heap.size ≤ w13.heap.size ∧ w12.heap.size ≤ w13.heap.size := by omega
      have KX := Lib.hid (fun W (hb : Below w13.heap.size w13 W) => rat_sameB (R7.out.kp (Kp.of_below (h713.trans (hb.mono hz13.1)))) (R12.out.kp (Kp.of_below (h1213.trans (hb.mono hz13.2.2)))) (Nat.le_trans HLX.out.1 hM2) (Nat.le_trans HLX.out.2 hM2))
      have KY := Lib.hid (fun W (hb : Below w13.heap.size w13 W) => rat_sameB (R8.out.kp (Kp.of_below (h813.trans (hb.mono hz13.2.1)))) (r13.kp (Kp.of_below hb)) (Nat.le_trans HLY.out.1 hM2) (Nat.le_trans HLY.out.2 hM2))
      have HB13 := Lib.hid hB13
      clear r13 h713 h813 h1213 hb13 hb13c0 hb13c1 hb13c2 hb13f0 hb13f1 hb13f2 o12c o12f p12c p12f q12c q12f X0 X1 X2 z0 z1 z2 Y0 Y1 Y2 Y3 hB12a hB12 hB13 hB7 hB8 R7 R8 R12 H78 H812 K4 K5 K6 K7 K8 K9 K10 K11 K12 K13 HLX HLY
      have hal : Below w13.heap.size w13 (w13.alloc (.cells #[.bool s13, .slice A13 n13 c13, .slice B13 m13 d13] 30)) := (Below.refl _ _).alloc (Nat.le_refl _) _
      have HAL := Lib.hid hal
      clear hal
      have hq1 : w7.heap.size < w13.heap.size := by omega
      have hq2 : w8.heap.size < w13.heap.size := by omega
      (have o13c := fun o i => below_at ((Below.refl w13.heap.size w13).alloc (Nat.le_refl _) o) (w7.heap.size) i (by omega)); (have o13f := fun o i => below_fr ((Below.refl w13.heap.size w13).alloc (Nat.le_refl _) o) (w7.heap.size) i (by omega))
      (have p13c := fun o i => below_at ((Below.refl w13.heap.size w13).alloc (Nat.le_refl _) o) (w8.heap.size) i (by omega)); (have p13f := fun o i => below_fr ((Below.refl w13.heap.size w13).alloc (Nat.le_refl _) o) (w8.heap.size) i (by omega))
      (have q13c := fun o i => below_at ((Below.refl w13.heap.size w13).alloc (Nat.le_refl _) o) (w12.heap.size) i (by omega)); (have q13f := fun o i => below_fr ((Below.refl w13.heap.size w13).alloc (Nat.le_refl _) o) (w12.heap.size) i (by omega))
      go_wp2_with fail
      (with_reducible refine (bnum_e _ _).mono ?_)
      rintro e _ ⟨rfl, rfl⟩
      go_wp2_with fail
      (with_reducible refine (bnum_e _ _).mono ?_)
      rintro e _ ⟨rfl, rfl⟩
      go_wp2_with fail
      (with_reducible refine (bnum_e _ _).mono ?_)
      rintro e _ ⟨rfl, rfl⟩
      go_wp2_with fail
      (with_reducible refine (bnum_e _ _).mono ?_)
      rintro e _ ⟨rfl, rfl⟩
      (go_wp2_with fail; (with_reducible refine (KX.out _ HAL.out).mono ?_); rintro e w14 ⟨rfl, hb14⟩; have hb14z := Below.size hb14; (try simp only [ZA, ZS, ZD, ZN] at hb14z); have hb14c0 := fun o => below_at hb14 (w8.heap.size) o (by first | omega | (simp only [ZA, ZS, ZD, ZN]; omega)); have hb14f0 := fun o => below_fr hb14 (w8.heap.size) o (by first | omega | (simp only [ZA, ZS, ZD, ZN]; omega)); have hb14c1 := fun o => below_at hb14 (w13.heap.size) o (by first | omega | (simp only [ZA, ZS, ZD, ZN]; omega)); have hb14f1 := fun o => below_fr hb14 (w13.heap.size) o (by first | omega | (simp only [ZA, ZS, ZD, ZN]; omega)))
      have h14 : Below w13.heap.size w13 w14 := HAL.out.trans (hb14.mono (by simp))
      go_wp2_with fail
      (with_reducible refine (bnum_e _ _).mono ?_)
      rintro e _ ⟨rfl, rfl⟩
      (go_wp2_with fail; (with_reducible refine (KY.out _ h14).mono ?_); rintro e w15 ⟨rfl, hb15⟩; have hb15z := Below.size hb15; (try simp only [ZA, ZS, ZD, ZN] at hb15z))
      go_wp2
      go_ret
      exact ⟨rfl, HB13.out.trans ((h14.trans (hb15.mono h14.size)).mono HB13.out.size)⟩
end Go.Proofs.YtmebdlilbnadgaaGreatDoor
