/- Contracts of functions and lemmas, used by the proofs of the given statements. No condition beyond those that each lemma names. -/
import Derived.Test.YtmebdlilbnadgaaGreatDoorStaX
namespace Go.Proofs.YtmebdlilbnadgaaGreatDoor
open Go.RowKit
set_option linter.unusedSimpArgs false
set_option linter.unusedVariables false
set_option maxRecDepth 20000
/-! ## law52: the document's example -/
theorem exC_code0 : exC.code = 0 := Chn.ok_iff.2 exC_ok
theorem exC_ncl : exC.ncl = 1 := by
  show cntB (clB exC.f exC.t 2 2) 2 = 1
  rw [exC_f, exC_t]
  decide +kernel
theorem exC_pi0 : exC.pi 0 = 3/4 := by
  show staX exC.f exC.t exC.q 2 2 0 = _
  rw [exC_q, exC_f, exC_t]
  decide +kernel
theorem exC_pi1 : exC.pi 1 = 1/4 := by
  show staX exC.f exC.t exC.q 2 2 1 = _
  rw [exC_q, exC_f, exC_t]
  decide +kernel
theorem exC_frq : exC.frq exC.pi 2 = 3/4 := by
  show floG (fun k => !exC.D (exC.f k) && exC.D (exC.t k)) exC.f exC.q exC.pi 2 = 3/4
  have e : ∀ k, k < 2 → (!exC.D (exC.f k) && exC.D (exC.t k)) = (k == 0) := by
    refine two ?_ ?_ <;> rw [exC_f, exC_t] <;> decide
  rw [floG, floG, floG, e 0 (by omega), e 1 (by omega), exC_q, exC_f]
  show (0 : Rat) + exC.pi 0 * 1 = 3/4
  rw [exC_pi0]
  decide +kernel
theorem exC_down : dsum exC.D exC.pi 2 = 1/4 := by
  rw [dsum, dsum, dsum]
  show (0 : Rat) + exC.pi 1 = 1/4
  rw [exC_pi1]
  decide +kernel
attribute [local irreducible] nv wp
theorem ex_text14 {w : World} {v : Value} (h : RdR w v (canR (1/4))) : Calls Tryz.prog 43 #[v] w fun e w' => e = .returned (.string ⟨#[49, 47, 52]⟩) ∧ Below w.heap.size w w' :=
  (text_can h (by decide +kernel) (by decide +kernel) (by decide +kernel) [49] [52] (by decide +kernel) (by decide +kernel) (by simp) (by simp) (by simp) (by simp)).mono fun e w' h => ⟨h.1.trans (congrArg (fun x => Ending.returned (.string x)) (by decide +kernel)), h.2⟩
attribute [local irreducible] win plainB validR valR canR mvE chkM codeC netS sumN dsum floG
set_option maxHeartbeats 4000000 in
theorem awake52_any (w : World) : Calls Tryz.prog 10 #[] w fun e w' => e = .returned (.bool true) ∧ Below w.heap.size w w' := by
  have K1 : Hid (∀ W, Calls Tryz.prog 42 #[.int .i64 1] W fun e w' => RetQ W.heap.size 1 e w' ∧ Below W.heap.size W w') := fun W => rofN 1 (by omega) 1 rfl W
  have K3 : Hid (∀ W, Calls Tryz.prog 42 #[.int .i64 3] W fun e w' => RetQ W.heap.size 3 e w' ∧ Below W.heap.size W w') := fun W => rofN 3 (by omega) 3 rfl W
  have KS : Hid (∀ W gM gB, ChI W W.heap.size (some ⟨gM, 0, none⟩) 2 (some ⟨gB, 0, none⟩) 2 exC → Calls Tryz.prog 13 #[cv 2 0 (some ⟨gM, 0, none⟩) 2 2 (some ⟨gB, 0, none⟩) 2 2] W fun e w' => (∃ A d, e = .returned (.tuple #[.slice A 2 d, .nilIface]) ∧ RowA w' w'.heap.size A 2 (can exC.pi)) ∧ Below W.heap.size W w') := fun W gM gB hi => solve_ok hi exC_small.sizP exC_code0 exC_ncl
  have KD : Hid (∀ W gM gB A d, ChI W W.heap.size (some ⟨gM, 0, none⟩) 2 (some ⟨gB, 0, none⟩) 2 exC → RowA W W.heap.size A 2 (can exC.pi) → Calls Tryz.prog 31 #[cv 2 0 (some ⟨gM, 0, none⟩) 2 2 (some ⟨gB, 0, none⟩) 2 2, .slice A 2 d] W fun e w' => (∃ v, e = .returned (.tuple #[v, .nilIface]) ∧ RdS w' 0 v (canR (1/4))) ∧ Below W.heap.size W w') := by
    show ∀ _, _
    intro W gM gB A d hi hr
    have := (Down_any (ca := d) (pi_dist hi exC_small exC_ok hr))
    rw [show exC.codeCe exC.nd (can exC.pi) = 0 from Chn.pi_codeCe exC_code0 exC_ncl, show exC.dwnV exC.nd (can exC.pi) = 1/4 from (Chn.pi_dwnV exC_code0 exC_ncl).trans exC_down] at this
    refine this.mono fun e w' ⟨h1, h2⟩ => ⟨?_, h2⟩
    obtain ⟨v, e1, r⟩ := h1
    rw [errM_0] at e1
    exact ⟨v, e1, r⟩
  have KF : Hid (∀ W gM gB A d, ChI W W.heap.size (some ⟨gM, 0, none⟩) 2 (some ⟨gB, 0, none⟩) 2 exC → RowA W W.heap.size A 2 (can exC.pi) → Calls Tryz.prog 15 #[cv 2 0 (some ⟨gM, 0, none⟩) 2 2 (some ⟨gB, 0, none⟩) 2 2, .slice A 2 d] W fun e w' => (∃ v, e = .returned (.tuple #[v, .nilIface]) ∧ RdS w' 0 v (canR (3/4))) ∧ Below W.heap.size W w') := by
    show ∀ _, _
    intro W gM gB A d hi hr
    have := (Frequency_any (ca := d) (pi_dist hi exC_small exC_ok hr))
    rw [show exC.codeCe exC.nd (can exC.pi) = 0 from Chn.pi_codeCe exC_code0 exC_ncl, show exC.frqV exC.nd (can exC.pi) = 3/4 from (Chn.pi_frqV exC_code0 exC_ncl).trans exC_frq] at this
    refine this.mono fun e w' ⟨h1, h2⟩ => ⟨?_, h2⟩
    obtain ⟨v, e1, r⟩ := h1
    rw [errM_0] at e1
    exact ⟨v, e1, r⟩
  have HP0 : Hid (canR (exC.pi 0) = canR (3/4)) := congrArg canR exC_pi0
  go_enter Tryz.func10, Tryz.ntmps10
  (go_wp2_with fail; (with_reducible refine (K1.out _).mono ?_); rintro e w1 ⟨⟨v1, rfl, own1⟩, hb1⟩; have hb1z := Below.size hb1; (try simp only [ZA, ZS, ZD, ZN] at hb1z); have hb1c0 := fun o => below_at hb1 (w.heap.size) o (by first | omega | (simp only [ZA, ZS, ZD, ZN]; omega)); have hb1f0 := fun o => below_fr hb1 (w.heap.size) o (by first | omega | (simp only [ZA, ZS, ZD, ZN]; omega)))
  obtain ⟨s1, A1, n1, c1, B1, m1, d1, rfl⟩ := own1.form
  (go_wp2_with fail; (with_reducible refine (K3.out _).mono ?_); rintro e w2 ⟨⟨v2, rfl, own2⟩, hb2⟩; have hb2z := Below.size hb2; (try simp only [ZA, ZS, ZD, ZN] at hb2z); have hb2c0 := fun o => below_at hb2 (w.heap.size) o (by first | omega | (simp only [ZA, ZS, ZD, ZN]; omega)); have hb2f0 := fun o => below_fr hb2 (w.heap.size) o (by first | omega | (simp only [ZA, ZS, ZD, ZN]; omega)))
  obtain ⟨s2, A2, n2, c2, B2, m2, d2, rfl⟩ := own2.form
  have hw2 : w.heap.size < w2.heap.size := by have := hb1.size; have := hb2.size; simp at *; omega
  obtain ⟨WC, hWC⟩ : ∃ WC, WC = (w2.alloc (.cells #[.int .i64 0, .int .i64 1, .bool s1, .slice A1 n1 c1, .slice B1 m1 d1, .int .i64 1, .int .i64 0, .bool s2, .slice A2 n2 c2, .slice B2 m2 d2] 33)).alloc (.cells #[.int .i64 2, .int .i64 0, .slice (some ⟨w2.heap.size, 0, none⟩) 2 2, .slice (some ⟨w.heap.size, 0, none⟩) 2 2] 25) := ⟨_, rfl⟩
  have hbC : Below w2.heap.size w2 WC := by rw [hWC]; exact ((Below.refl _ _).alloc (Nat.le_refl _) _).alloc (by simp) _
  have hzC : WC.heap.size = w2.heap.size + 2 := by rw [hWC]; simp
  have hbw : Below w.heap.size w WC := ((by have z0 := Below.size hb1; have z1 := Below.size hb2; (try simp only [ZA, ZS, ZD, ZN] at z0 z1 ⊢; skip); repeat' (first | (with_reducible exact Below.refl _ _) | (with_reducible assumption) | (with_reducible refine Below.alloc ?_ ?_ _) | (with_reducible refine Below.drew ?_) | (with_reducible refine below_drewN ?_ _) | (with_reducible refine Below.setCell ?_ ?_ _) | (with_reducible refine Below.trans ?_ (Below.mono (by with_reducible assumption) ?_)) | omega | (simp only [ZA, ZS, ZD, ZN]; omega) | go_size)) : Below w.heap.size w w2).trans (hbC.mono (by omega))
  have hin : ChI WC WC.heap.size (some ⟨w2.heap.size, 0, none⟩) 2 (some ⟨w.heap.size, 0, none⟩) 2 exC := by
    refine exC_in (by omega) (by omega) ((own1.below hb2).rs.kp (Kp.of_below hbC)) (own2.rs.kp (Kp.of_below hbC)) (fun j u hu => ?_) (fun j u hu => ?_)
    · rw [hWC]
      refine Lib.cell?_alloc_some _ ((World.cell?_alloc_at _ _ _ _ rfl).trans ?_)
      rw [← hu]
      simp
    · refine ((hbC.cell (p := ⟨w.heap.size, j, none⟩) hw2).trans ?_)
      rw [hb2c0, hb1c0]
      refine (World.cell?_alloc_at _ _ _ _ rfl).trans ?_
      rw [← hu]
      simp
  have HIN := Lib.hid (fun W (hb : Below WC.heap.size WC W) => hin.below hb)
  have f0 : WC.cell? ⟨w2.heap.size + 1, 0, none⟩ = some (.int .i64 2) := by rw [hWC]; exact (World.cell?_alloc_at _ _ _ _ (by simp)).trans rfl
  have f1 : WC.cell? ⟨w2.heap.size + 1, 1, none⟩ = some (.int .i64 0) := by rw [hWC]; exact (World.cell?_alloc_at _ _ _ _ (by simp)).trans rfl
  have f2 : WC.cell? ⟨w2.heap.size + 1, 2, none⟩ = some (.slice (some ⟨w2.heap.size, 0, none⟩) 2 2) := by rw [hWC]; exact (World.cell?_alloc_at _ _ _ _ (by simp)).trans rfl
  have f3 : WC.cell? ⟨w2.heap.size + 1, 3, none⟩ = some (.slice (some ⟨w.heap.size, 0, none⟩) 2 2) := by rw [hWC]; exact (World.cell?_alloc_at _ _ _ _ (by simp)).trans rfl
  have HWC := Lib.hid hWC
  have hwc9 : w2.heap.size + 1 < WC.heap.size := by omega
  clear hin hWC own1 own2 hbC K1 K3
  go_wp2_with fail
  rw [← HWC.out]
  (with_reducible refine (KS.out _ _ _ (HIN.out _ (Below.refl _ _))).mono ?_)
  rintro e w3 ⟨⟨A3, c3, rfl, r3⟩, hB3⟩
  obtain ⟨g3, o3, s5, A5, n5, c5, B5, m5, d5, rfl, hg3, p0, p1, p2, q0⟩ := r3.at_ (show 0 < 2 by omega)
  rw [show can exC.pi 0 = canR (3/4) from HP0.out] at q0
  simp only [Nat.zero_mul, Nat.add_zero] at p0 p1 p2
  have R3 := Lib.hid r3
  have HB3 := Lib.hid hB3
  have KT1 := Lib.hid (fun W (hb : Below w3.heap.size w3 W) => ex_text34 (q0.kp (Kp.of_below hb)).rdr)
  have hz3 := hB3.size
  have z0 := (hB3.cell (p := ⟨w2.heap.size + 1, 0, none⟩) hwc9).trans f0
  have z1 := (hB3.cell (p := ⟨w2.heap.size + 1, 1, none⟩) hwc9).trans f1
  have z2 := (hB3.cell (p := ⟨w2.heap.size + 1, 2, none⟩) hwc9).trans f2
  have z3 := (hB3.cell (p := ⟨w2.heap.size + 1, 3, none⟩) hwc9).trans f3
  have hw3 : w2.heap.size + 1 < w3.heap.size := by omega
  clear r3 q0 hB3 f0 f1 f2 f3
  (go_wp2_with fail; (with_reducible refine (KD.out _ _ _ _ _ (HIN.out _ HB3.out) R3.out).mono ?_); rintro e w4 ⟨⟨v4, rfl, r4⟩, hb4⟩; have hb4z := Below.size hb4; (try simp only [ZA, ZS, ZD, ZN] at hb4z); have hb4c0 := fun o => below_at hb4 (w2.heap.size + 1) o (by first | omega | (simp only [ZA, ZS, ZD, ZN]; omega)); have hb4f0 := fun o => below_fr hb4 (w2.heap.size + 1) o (by first | omega | (simp only [ZA, ZS, ZD, ZN]; omega)); have hb4c1 := fun o => below_at hb4 (g3) o (by first | omega | (simp only [ZA, ZS, ZD, ZN]; omega)); have hb4f1 := fun o => below_fr hb4 (g3) o (by first | omega | (simp only [ZA, ZS, ZD, ZN]; omega)))
  obtain ⟨s6, A6, n6, c6, B6, m6, d6, rfl⟩ := r4.form
  have hB4 : Below WC.heap.size WC w4 := HB3.out.trans (hb4.mono hz3)
  have HB34 := Lib.hid hb4
  have hz4 := hB4.size
  have hz34 := hb4.size
  have hAL4 : Below w4.heap.size w4 (w4.alloc (.cells #[.bool s6, .slice A6 n6 c6, .slice B6 m6 d6] 30)) := (Below.refl _ _).alloc (Nat.le_refl _) _
  have KT2 := Lib.hid (fun W (hb : Below w4.heap.size w4 W) => ex_text14 (r4.kp (Kp.of_below hb)).rdr)
  have HB4 := Lib.hid hB4
  have R4 := Lib.hid ((((R3.out.below hb4).up hb4.size).below hAL4).up hAL4.size)
  have HA4 := Lib.hid hAL4
  have hw4 : w2.heap.size + 1 < w4.heap.size := by omega
  have hg4 : g3 < w4.heap.size := by omega
  (have o4c := fun o i => below_at ((Below.refl w4.heap.size w4).alloc (Nat.le_refl _) o) (w2.heap.size + 1) i (by omega)); (have o4f := fun o i => below_fr ((Below.refl w4.heap.size w4).alloc (Nat.le_refl _) o) (w2.heap.size + 1) i (by omega))
  (have p4c := fun o i => below_at ((Below.refl w4.heap.size w4).alloc (Nat.le_refl _) o) (g3) i (by omega)); (have p4f := fun o i => below_fr ((Below.refl w4.heap.size w4).alloc (Nat.le_refl _) o) (g3) i (by omega))
  clear r4 hB4 hAL4
  (go_wp2_with fail; (with_reducible refine (KF.out _ _ _ _ _ (HIN.out _ (HB4.out.trans (HA4.out.mono hz4))) R4.out).mono ?_); rintro e w5 ⟨⟨v5, rfl, r5⟩, hb5⟩; have hb5z := Below.size hb5; (try simp only [ZA, ZS, ZD, ZN] at hb5z); have hb5c0 := fun o => below_at hb5 (w2.heap.size + 1) o (by first | omega | (simp only [ZA, ZS, ZD, ZN]; omega)); have hb5f0 := fun o => below_fr hb5 (w2.heap.size + 1) o (by first | omega | (simp only [ZA, ZS, ZD, ZN]; omega)); have hb5c1 := fun o => below_at hb5 (g3) o (by first | omega | (simp only [ZA, ZS, ZD, ZN]; omega)); have hb5f1 := fun o => below_fr hb5 (g3) o (by first | omega | (simp only [ZA, ZS, ZD, ZN]; omega)); have hb5c2 := fun o => below_at hb5 (w4.heap.size) o (by first | omega | (simp only [ZA, ZS, ZD, ZN]; omega)); have hb5f2 := fun o => below_fr hb5 (w4.heap.size) o (by first | omega | (simp only [ZA, ZS, ZD, ZN]; omega)))
  obtain ⟨s7, A7, n7, c7, B7, m7, d7, rfl⟩ := r5.form
  have hB45 : Below w4.heap.size w4 w5 := HA4.out.trans (hb5.mono (by simp))
  have hz5 := hB45.size
  have hz5' : w4.heap.size < w5.heap.size := by have := hb5.size; simp at this; omega
  have KT3 := Lib.hid (fun W (hb : Below w5.heap.size w5 W) => ex_text34 (r5.kp (Kp.of_below hb)).rdr)
  have HB45 := Lib.hid hB45
  have Q0 := (hB45.cell (p := ⟨g3, o3, none⟩) hg4).trans ((hb4c1 o3).trans p0)
  have Q1 := (hB45.cell (p := ⟨g3, o3 + 1, none⟩) hg4).trans ((hb4c1 (o3 + 1)).trans p1)
  have Q2 := (hB45.cell (p := ⟨g3, o3 + 2, none⟩) hg4).trans ((hb4c1 (o3 + 2)).trans p2)
  have D0 : w5.cell? ⟨w4.heap.size, 0, none⟩ = some (.bool s6) := by rw [hb5c2]; simp
  have D1 : w5.cell? ⟨w4.heap.size, 1, none⟩ = some (.slice A6 n6 c6) := by rw [hb5c2]; simp
  have D2 : w5.cell? ⟨w4.heap.size, 2, none⟩ = some (.slice B6 m6 d6) := by rw [hb5c2]; simp
  have hAL5 : Below w5.heap.size w5 (w5.alloc (.cells #[.bool s7, .slice A7 n7 c7, .slice B7 m7 d7] 30)) := (Below.refl _ _).alloc (Nat.le_refl _) _
  have HA5 := Lib.hid hAL5
  have hg5 : g3 < w5.heap.size := by omega
  (have a5c := fun o i => below_at ((Below.refl w5.heap.size w5).alloc (Nat.le_refl _) o) (g3) i (by omega)); (have a5f := fun o i => below_fr ((Below.refl w5.heap.size w5).alloc (Nat.le_refl _) o) (g3) i (by omega))
  (have e5c := fun o i => below_at ((Below.refl w5.heap.size w5).alloc (Nat.le_refl _) o) (w4.heap.size) i (by omega)); (have e5f := fun o i => below_fr ((Below.refl w5.heap.size w5).alloc (Nat.le_refl _) o) (w4.heap.size) i (by omega))
  clear hAL5 hB45 r5 p0 p1 p2 z0 z1 z2 z3 hb4 hb5 hb4c0 hb4c1 hb4f0 hb4f1 hb5c0 hb5c1 hb5c2 hb5f0 hb5f1 hb5f2 o4c o4f p4c p4f R3 R4 KD KF KS HIN
  (go_wp2_with fail; (with_reducible refine (KT1.out _ (HB34.out.trans ((HB45.out.trans (HA5.out.mono (by omega))).mono (by omega)))).mono ?_); rintro e wa ⟨rfl, hba⟩; have hbaz := Below.size hba; (try simp only [ZA, ZS, ZD, ZN] at hbaz); have hbac0 := fun o => below_at hba (w4.heap.size) o (by first | omega | (simp only [ZA, ZS, ZD, ZN]; omega)); have hbaf0 := fun o => below_fr hba (w4.heap.size) o (by first | omega | (simp only [ZA, ZS, ZD, ZN]; omega)); have hbac1 := fun o => below_at hba (w5.heap.size) o (by first | omega | (simp only [ZA, ZS, ZD, ZN]; omega)); have hbaf1 := fun o => below_fr hba (w5.heap.size) o (by first | omega | (simp only [ZA, ZS, ZD, ZN]; omega)))
  have hBa : Below w5.heap.size w5 wa := HA5.out.trans (hba.mono (by simp))
  (go_wp2_with fail; (with_reducible refine (KT2.out _ (HB45.out.trans (hBa.mono (by omega)))).mono ?_); rintro e wb ⟨rfl, hbb⟩; have hbbz := Below.size hbb; (try simp only [ZA, ZS, ZD, ZN] at hbbz); have hbbc0 := fun o => below_at hbb (w5.heap.size) o (by first | omega | (simp only [ZA, ZS, ZD, ZN]; omega)); have hbbf0 := fun o => below_fr hbb (w5.heap.size) o (by first | omega | (simp only [ZA, ZS, ZD, ZN]; omega)))
  have hBb : Below w5.heap.size w5 wb := hBa.trans (hbb.mono hBa.size)
  (go_wp2_with fail; (with_reducible refine (KT3.out _ hBb).mono ?_); rintro e wc ⟨rfl, hbc⟩; have hbcz := Below.size hbc; (try simp only [ZA, ZS, ZD, ZN] at hbcz))
  have hBz : Below w5.heap.size w5 wc := hBb.trans (hbc.mono hBb.size)
  go_wp2
  go_ret
  exact ⟨rfl, hbw.trans ((HB4.out.trans ((HB45.out.trans (hBz.mono (by omega))).mono (by omega))).mono (by omega))⟩
end Go.Proofs.YtmebdlilbnadgaaGreatDoor
