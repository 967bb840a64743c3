/- Contracts of functions and lemmas, used by the proofs of the given statements. No condition beyond those that each lemma names. -/
import Derived.Test.YtlncafhgmbhocaaGreatDoorJLawTr
namespace Go.Proofs.YtlncafhgmbhocaaGreatDoor
open Go.RowKit
set_option linter.unusedSimpArgs false
set_option linter.unusedVariables false
set_option maxRecDepth 20000
attribute [local irreducible] nv wp win plainB validR valR canR mvE chkM codeC exK maxF dsum
/-! ## law53: valid, sum -/
structure ValP (c : Chn) (r : Rw) : Prop where
  few : FewP c
  l1 : r.2.1.length ≤ 4
  l2 : r.2.2.length ≤ 4
  code : c.codeR r = 0
set_option maxHeartbeats 8000000 in
theorem valid_law {w : World} {AM AD : Option Addr} {cm cd : Nat} {c : Chn} {v : Value} {r : Rw} (h : ChI w w.heap.size AM cm AD cd c) (hr : RdS w w.heap.size v r) :
    Calls Tryz.prog 33 #[cv c.st c.sr AM c.nm cm AD c.nd cd, v] w fun e w' => RetB (ValP c r) e ∧ Below w.heap.size w w' := by
  have KF := Lib.hid (fun W (hb : Below w.heap.size w W) => few_any (h.below hb))
  have HI := Lib.hid (fun W (hb : Below w.heap.size w W) => h.below hb)
  have HRR := Lib.hid (fun W (hb : Below w.heap.size w W) => (hr.kp (Kp.of_below hb)).base hb.size)
  have hSm : FewP c → Small c := fun hf => hf.small h
  have HSm := Lib.hid hSm
  have hRc : c.code = 0 → 0 < valR r → ¬ valR r < c.fast → c.codeR r = 0 := fun h0 h1 h2 => by
    unfold Chn.codeR
    rw [if_neg (by omega), if_neg]
    rintro (h3 | h3)
    · exact h3 h1
    · exact h2 h3
  have HRC := Lib.hid hRc
  obtain ⟨s0, A0, n0, c0, B0, m0, d0, rfl⟩ := hr.form
  have hbA : Below w.heap.size w ((w.alloc (.cells #[.int .i64 c.st, .int .i64 c.sr, .slice AM c.nm cm, .slice AD c.nd cd] 25)).alloc (.cells #[.bool s0, .slice A0 n0 c0, .slice B0 m0 d0] 44)) := ((Below.refl _ _).alloc (Nat.le_refl _) _).alloc (by simp) _
  have HBA := Lib.hid hbA
  clear h hr hSm hRc hbA
  go_enter Tryz.func33, Tryz.ntmps33
  (go_wp2_with fail; (with_reducible refine (KF.out _ HBA.out).mono ?_); rintro e w1 ⟨⟨bb, rfl, hbb⟩, hb1⟩; have hb1z := Below.size hb1; (try simp only [ZA, ZS, ZD, ZN] at hb1z); have hb1c0 := fun o => below_at hb1 (w.heap.size) o (by first | omega | (simp only [ZA, ZS, ZD, ZN]; omega)); have hb1f0 := fun o => below_fr hb1 (w.heap.size) o (by first | omega | (simp only [ZA, ZS, ZD, ZN]; omega)); have hb1c1 := fun o => below_at hb1 (w.heap.size + 1) o (by first | omega | (simp only [ZA, ZS, ZD, ZN]; omega)); have hb1f1 := fun o => below_fr hb1 (w.heap.size + 1) o (by first | omega | (simp only [ZA, ZS, ZD, ZN]; omega)))
  have hB1 : Below w.heap.size w w1 := HBA.out.trans (hb1.mono (by simp; omega))
  cases bb with
  | false =>
    clear hbb
    go_wp2
    go_ret
    exact ⟨retB_f, hB1⟩
  | true =>
    have HF := Lib.hid (hbb rfl)
    have HS := Lib.hid (HSm.out (hbb rfl))
    clear hbb
    have hz1 := hB1.size
    have hw1 : w.heap.size + 1 < w1.heap.size := by have := hb1.size; simp at this; omega
    obtain ⟨cc, hcc⟩ : ∃ cc, cc = c.code := ⟨_, rfl⟩
    have KC : Hid (∀ W, Below w.heap.size w W → Calls Tryz.prog 21 #[cv c.st c.sr AM c.nm cm AD c.nd cd] W fun e w' => e = .returned (.int .i64 cc) ∧ Below W.heap.size W w') := fun W hb => by rw [hcc]; exact rchCheck (HI.out W hb) HS.out.chS.nm HS.out.chS.short
    by_cases h0 : cc = 0
    · have HC0 := Lib.hid (hcc.symm.trans h0)
      have ok := Chn.ok_iff.1 (hcc.symm.trans h0)
      rw [h0] at KC
      obtain ⟨fq, hfq⟩ : ∃ fq, fq = c.fast := ⟨_, rfl⟩
      have HFQ := Lib.hid hfq
      have hfs : Sz 400 fq := by rw [hfq]; exact HS.out.fastS ok
      have K8 : Hid (∀ W, Below w.heap.size w W → Calls Tryz.prog 70 #[cv c.st c.sr AM c.nm cm AD c.nd cd] W fun e w' => (∃ v, e = .returned (.tuple #[v, .int .i64 0]) ∧ RdS w' 0 v (canR fq)) ∧ Below W.heap.size W w') := fun W hb => (rfastest_any (HI.out W hb) HS.out.chS).mono fun e w' h => ⟨by have h1 := h.1; unfold RetQc at h1; rw [if_pos HC0.out] at h1; rw [hfq]; exact h1, h.2⟩
      have HFS := Lib.hid hfs
      clear hcc h0 ok hfq hfs
      have hbR : Below w.heap.size w (w1.alloc (.cells #[.bool s0, .slice A0 n0 c0, .slice B0 m0 d0] 44)) := hB1.alloc hz1 _
      (go_wp2_with fail; (with_reducible refine (KC.out _ hB1).mono ?_); rintro e w2 ⟨rfl, hb2⟩; have hb2z := Below.size hb2; (try simp only [ZA, ZS, ZD, ZN] at hb2z); have hb2c0 := fun o => below_at hb2 (w.heap.size) o (by first | omega | (simp only [ZA, ZS, ZD, ZN]; omega)); have hb2f0 := fun o => below_fr hb2 (w.heap.size) o (by first | omega | (simp only [ZA, ZS, ZD, ZN]; omega)); have hb2c1 := fun o => below_at hb2 (w.heap.size + 1) o (by first | omega | (simp only [ZA, ZS, ZD, ZN]; omega)); have hb2f1 := fun o => below_fr hb2 (w.heap.size + 1) o (by first | omega | (simp only [ZA, ZS, ZD, ZN]; omega)))
      have hB2 : Below w.heap.size w w2 := hB1.trans (hb2.mono hz1)
      have hw2 : w.heap.size + 1 < w2.heap.size := by have := hb2.size; omega
      have hbR : Below w.heap.size w (w2.alloc (.cells #[.bool s0, .slice A0 n0 c0, .slice B0 m0 d0] 44)) := hB2.alloc hB2.size _
      have KR := Lib.hid (brief_any (c := 1) (RowA.one (W := w2.alloc (.cells #[.bool s0, .slice A0 n0 c0, .slice B0 m0 d0] 44)) (g := w2.heap.size) (HRR.out _ hbR) (by simp) (by simp) (by simp) (by simp)))
      (have o2c := fun o i => below_at ((Below.refl w2.heap.size w2).alloc (Nat.le_refl _) o) (w.heap.size) i (by omega)); (have o2f := fun o i => below_fr ((Below.refl w2.heap.size w2).alloc (Nat.le_refl _) o) (w.heap.size) i (by omega))
      (have p2c := fun o i => below_at ((Below.refl w2.heap.size w2).alloc (Nat.le_refl _) o) (w.heap.size + 1) i (by omega)); (have p2f := fun o i => below_fr ((Below.refl w2.heap.size w2).alloc (Nat.le_refl _) o) (w.heap.size + 1) i (by omega))
      (go_wp2_with fail; (with_reducible refine (KR.out).mono ?_); rintro e w3 ⟨⟨b3, rfl, hb3'⟩, hb3⟩; have hb3z := Below.size hb3; (try simp only [ZA, ZS, ZD, ZN] at hb3z); have hb3c0 := fun o => below_at hb3 (w.heap.size) o (by first | omega | (simp only [ZA, ZS, ZD, ZN]; omega)); have hb3f0 := fun o => below_fr hb3 (w.heap.size) o (by first | omega | (simp only [ZA, ZS, ZD, ZN]; omega)); have hb3c1 := fun o => below_at hb3 (w.heap.size + 1) o (by first | omega | (simp only [ZA, ZS, ZD, ZN]; omega)); have hb3f1 := fun o => below_fr hb3 (w.heap.size + 1) o (by first | omega | (simp only [ZA, ZS, ZD, ZN]; omega)))
      have hB3 : Below w.heap.size w w3 := hbR.trans (hb3.mono (by have := hB2.size; simp; omega))
      cases b3 with
      | false =>
        clear hb3'
        go_wp2
        go_ret
        exact ⟨retB_f, hB3⟩
      | true =>
        have HR1 := Lib.hid ((hb3' rfl).2 0 (by omega))
        clear hb3'
        have hl1 : r.2.1.length ≤ 4 := HR1.out.1
        have hl2 : r.2.2.length ≤ 4 := HR1.out.2
        have KV := Lib.hid (fun W (hb : Below w.heap.size w W) => rvalidS (HRR.out W hb) (by omega) (by omega))
        have KG := Lib.hid (fun W z (hb : Below w.heap.size w W) (hz : sgnQ (valR r) = z) => rsignS (HRR.out W hb) (by omega) (by omega) hz)
        have KM := Lib.hid (fun W u z (hb : Below w.heap.size w W) (hu : RdS W 0 u (canR fq)) (hz : sgnQ (valR r - fq) = z) => (by
          have := rcmpQ ((HRR.out W hb).rdq (L := 404) (by omega) (by omega)) ((hu.canQ HFS.out).more (show 400 ≤ 404 by omega)) (by omega) (by omega)
          rw [hz] at this
          exact this : Calls Tryz.prog 71 #[rv s0 A0 n0 c0 B0 m0 d0, u] W fun e w' => e = .returned (.int .i64 z) ∧ Below W.heap.size W w'))
        clear hl1 hl2
        (go_wp2_with fail; (with_reducible refine (K8.out _ hB3).mono ?_); rintro e w4 ⟨⟨v4, rfl, r4⟩, hb4⟩; have hb4z := Below.size hb4; (try simp only [ZA, ZS, ZD, ZN] at hb4z); have hb4c0 := fun o => below_at hb4 (w.heap.size) o (by first | omega | (simp only [ZA, ZS, ZD, ZN]; omega)); have hb4f0 := fun o => below_fr hb4 (w.heap.size) o (by first | omega | (simp only [ZA, ZS, ZD, ZN]; omega)); have hb4c1 := fun o => below_at hb4 (w.heap.size + 1) o (by first | omega | (simp only [ZA, ZS, ZD, ZN]; omega)); have hb4f1 := fun o => below_fr hb4 (w.heap.size + 1) o (by first | omega | (simp only [ZA, ZS, ZD, ZN]; omega)))
        obtain ⟨s4, A4, n4, c4, B4, m4, d4, rfl⟩ := r4.form
        have hw4 : w.heap.size + 1 < w4.heap.size := by have := hb3.size; have := hb4.size; simp at *; omega
        have hB4 : Below w.heap.size w (w4.alloc (.cells #[.bool s4, .slice A4 n4 c4, .slice B4 m4 d4] 44)) := (hB3.trans (hb4.mono hB3.size)).alloc (by omega) _
        have HR4 := Lib.hid r4
        clear r4
        (have o4c := fun o i => below_at ((Below.refl w4.heap.size w4).alloc (Nat.le_refl _) o) (w.heap.size) i (by omega)); (have o4f := fun o i => below_fr ((Below.refl w4.heap.size w4).alloc (Nat.le_refl _) o) (w.heap.size) i (by omega))
        (have p4c := fun o i => below_at ((Below.refl w4.heap.size w4).alloc (Nat.le_refl _) o) (w.heap.size + 1) i (by omega)); (have p4f := fun o i => below_fr ((Below.refl w4.heap.size w4).alloc (Nat.le_refl _) o) (w.heap.size + 1) i (by omega))
        cases hv : validR r
        · have HV := Lib.hid (fun W hb => (by have := KV.out W hb; rw [hv] at this; exact this : Calls Tryz.prog 61 #[rv s0 A0 n0 c0 B0 m0 d0] W fun e w' => e = .returned (.bool false) ∧ Below W.heap.size W w'))
          clear hv
          (go_wp2_with fail; (with_reducible refine (HV.out _ hB4).mono ?_); rintro e w5 ⟨rfl, hb5⟩; have hb5z := Below.size hb5; (try simp only [ZA, ZS, ZD, ZN] at hb5z))
          go_wp2
          go_ret
          exact ⟨retB_f, hB4.trans (hb5.mono hB4.size)⟩
        · have HV := Lib.hid (fun W hb => (by have := KV.out W hb; rw [hv] at this; exact this : Calls Tryz.prog 61 #[rv s0 A0 n0 c0 B0 m0 d0] W fun e w' => e = .returned (.bool true) ∧ Below W.heap.size W w'))
          clear hv
          by_cases hp : 0 < valR r
          · have HG := Lib.hid (fun W hb => KG.out W 1 hb (sgn_pos hp))
            by_cases hlt : valR r < fq
            · have HM := Lib.hid (fun W u hb hu => KM.out W u (-1) hb hu (sgn_neg (by grind)))
              clear hp hlt
              (go_wp2_with fail; (with_reducible refine (HV.out _ hB4).mono ?_); rintro e w5 ⟨rfl, hb5⟩; have hb5z := Below.size hb5; (try simp only [ZA, ZS, ZD, ZN] at hb5z); have hb5c0 := fun o => below_at hb5 (w.heap.size) o (by first | omega | (simp only [ZA, ZS, ZD, ZN]; omega)); have hb5f0 := fun o => below_fr hb5 (w.heap.size) o (by first | omega | (simp only [ZA, ZS, ZD, ZN]; omega)); have hb5c1 := fun o => below_at hb5 (w.heap.size + 1) o (by first | omega | (simp only [ZA, ZS, ZD, ZN]; omega)); have hb5f1 := fun o => below_fr hb5 (w.heap.size + 1) o (by first | omega | (simp only [ZA, ZS, ZD, ZN]; omega)); have hb5c2 := fun o => below_at hb5 (w4.heap.size) o (by first | omega | (simp only [ZA, ZS, ZD, ZN]; omega)); have hb5f2 := fun o => below_fr hb5 (w4.heap.size) o (by first | omega | (simp only [ZA, ZS, ZD, ZN]; omega)))
              have hB5 : Below w.heap.size w w5 := hB4.trans (hb5.mono hB4.size)
              (go_wp2_with fail; (with_reducible refine (HG.out _ hB5).mono ?_); rintro e w6 ⟨rfl, hb6⟩; have hb6z := Below.size hb6; (try simp only [ZA, ZS, ZD, ZN] at hb6z); have hb6c0 := fun o => below_at hb6 (w.heap.size) o (by first | omega | (simp only [ZA, ZS, ZD, ZN]; omega)); have hb6f0 := fun o => below_fr hb6 (w.heap.size) o (by first | omega | (simp only [ZA, ZS, ZD, ZN]; omega)); have hb6c1 := fun o => below_at hb6 (w.heap.size + 1) o (by first | omega | (simp only [ZA, ZS, ZD, ZN]; omega)); have hb6f1 := fun o => below_fr hb6 (w.heap.size + 1) o (by first | omega | (simp only [ZA, ZS, ZD, ZN]; omega)); have hb6c2 := fun o => below_at hb6 (w4.heap.size) o (by first | omega | (simp only [ZA, ZS, ZD, ZN]; omega)); have hb6f2 := fun o => below_fr hb6 (w4.heap.size) o (by first | omega | (simp only [ZA, ZS, ZD, ZN]; omega)))
              have hB6 : Below w.heap.size w w6 := hB5.trans (hb6.mono hB5.size)
              have h46 : Below w4.heap.size w4 w6 := (((Below.refl _ _).alloc (Nat.le_refl _) _).trans (hb5.mono (by simp))).trans (hb6.mono (by have := hb5.size; simp at this; omega))
              (go_wp2_with fail; (with_reducible refine (HM.out _ _ hB6 (HR4.out.kp (Kp.of_below h46))).mono ?_); rintro e w7 ⟨rfl, hb7⟩; have hb7z := Below.size hb7; (try simp only [ZA, ZS, ZD, ZN] at hb7z))
              go_wp2
              go_ret
              exact ⟨retB_f, hB6.trans (hb7.mono hB6.size)⟩
            · have HOut := Lib.hid (⟨HF.out, HR1.out.1, HR1.out.2, HRC.out HC0.out hp (by rw [← HFQ.out]; exact hlt)⟩ : ValP c r)
              have hz9 : ∃ z : Int, 0 ≤ z ∧ sgnQ (valR r - fq) = z := by
                by_cases e : valR r - fq = 0
                · exact ⟨0, by omega, by rw [e]; rfl⟩
                · exact ⟨1, by omega, sgn_pos (by grind)⟩
              obtain ⟨z, hz0, hz9⟩ := hz9
              have HM := Lib.hid (fun W u hb hu => KM.out W u z hb hu hz9)
              have e5 : decide (0 ≤ z) = true := by simpa using hz0
              clear hp hlt hz9
              (go_wp2_with fail; (with_reducible refine (HV.out _ hB4).mono ?_); rintro e w5 ⟨rfl, hb5⟩; have hb5z := Below.size hb5; (try simp only [ZA, ZS, ZD, ZN] at hb5z); have hb5c0 := fun o => below_at hb5 (w.heap.size) o (by first | omega | (simp only [ZA, ZS, ZD, ZN]; omega)); have hb5f0 := fun o => below_fr hb5 (w.heap.size) o (by first | omega | (simp only [ZA, ZS, ZD, ZN]; omega)); have hb5c1 := fun o => below_at hb5 (w.heap.size + 1) o (by first | omega | (simp only [ZA, ZS, ZD, ZN]; omega)); have hb5f1 := fun o => below_fr hb5 (w.heap.size + 1) o (by first | omega | (simp only [ZA, ZS, ZD, ZN]; omega)); have hb5c2 := fun o => below_at hb5 (w4.heap.size) o (by first | omega | (simp only [ZA, ZS, ZD, ZN]; omega)); have hb5f2 := fun o => below_fr hb5 (w4.heap.size) o (by first | omega | (simp only [ZA, ZS, ZD, ZN]; omega)))
              have hB5 : Below w.heap.size w w5 := hB4.trans (hb5.mono hB4.size)
              (go_wp2_with fail; (with_reducible refine (HG.out _ hB5).mono ?_); rintro e w6 ⟨rfl, hb6⟩; have hb6z := Below.size hb6; (try simp only [ZA, ZS, ZD, ZN] at hb6z); have hb6c0 := fun o => below_at hb6 (w.heap.size) o (by first | omega | (simp only [ZA, ZS, ZD, ZN]; omega)); have hb6f0 := fun o => below_fr hb6 (w.heap.size) o (by first | omega | (simp only [ZA, ZS, ZD, ZN]; omega)); have hb6c1 := fun o => below_at hb6 (w.heap.size + 1) o (by first | omega | (simp only [ZA, ZS, ZD, ZN]; omega)); have hb6f1 := fun o => below_fr hb6 (w.heap.size + 1) o (by first | omega | (simp only [ZA, ZS, ZD, ZN]; omega)); have hb6c2 := fun o => below_at hb6 (w4.heap.size) o (by first | omega | (simp only [ZA, ZS, ZD, ZN]; omega)); have hb6f2 := fun o => below_fr hb6 (w4.heap.size) o (by first | omega | (simp only [ZA, ZS, ZD, ZN]; omega)))
              have hB6 : Below w.heap.size w w6 := hB5.trans (hb6.mono hB5.size)
              have h46 : Below w4.heap.size w4 w6 := (((Below.refl _ _).alloc (Nat.le_refl _) _).trans (hb5.mono (by simp))).trans (hb6.mono (by have := hb5.size; simp at this; omega))
              (go_wp2_with fail; (with_reducible refine (HM.out _ _ hB6 (HR4.out.kp (Kp.of_below h46))).mono ?_); rintro e w7 ⟨rfl, hb7⟩; have hb7z := Below.size hb7; (try simp only [ZA, ZS, ZD, ZN] at hb7z))
              go_wp2
              go_ret
              exact ⟨retB_t HOut.out, hB6.trans (hb7.mono hB6.size)⟩
          · have hz9 : ∃ z : Int, z ≤ 0 ∧ sgnQ (valR r) = z := by
              rcases sgn_le hp with e | e
              · exact ⟨0, by omega, e⟩
              · exact ⟨-1, by omega, e⟩
            obtain ⟨z, hz0, hz9⟩ := hz9
            have HG := Lib.hid (fun W hb => KG.out W z hb hz9)
            have e5 : decide (0 < z) = false := by simp; omega
            clear hp hz9
            (go_wp2_with fail; (with_reducible refine (HV.out _ hB4).mono ?_); rintro e w5 ⟨rfl, hb5⟩; have hb5z := Below.size hb5; (try simp only [ZA, ZS, ZD, ZN] at hb5z); have hb5c0 := fun o => below_at hb5 (w.heap.size) o (by first | omega | (simp only [ZA, ZS, ZD, ZN]; omega)); have hb5f0 := fun o => below_fr hb5 (w.heap.size) o (by first | omega | (simp only [ZA, ZS, ZD, ZN]; omega)); have hb5c1 := fun o => below_at hb5 (w.heap.size + 1) o (by first | omega | (simp only [ZA, ZS, ZD, ZN]; omega)); have hb5f1 := fun o => below_fr hb5 (w.heap.size + 1) o (by first | omega | (simp only [ZA, ZS, ZD, ZN]; omega)); have hb5c2 := fun o => below_at hb5 (w4.heap.size) o (by first | omega | (simp only [ZA, ZS, ZD, ZN]; omega)); have hb5f2 := fun o => below_fr hb5 (w4.heap.size) o (by first | omega | (simp only [ZA, ZS, ZD, ZN]; omega)))
            have hB5 : Below w.heap.size w w5 := hB4.trans (hb5.mono hB4.size)
            (go_wp2_with fail; (with_reducible refine (HG.out _ hB5).mono ?_); rintro e w6 ⟨rfl, hb6⟩; have hb6z := Below.size hb6; (try simp only [ZA, ZS, ZD, ZN] at hb6z))
            go_wp2
            go_ret
            exact ⟨retB_f, hB5.trans (hb6.mono hB5.size)⟩
    · have e5 : (cc != 0) = true := by simpa using h0
      clear h0 hcc
      (go_wp2_with fail; (with_reducible refine (KC.out _ hB1).mono ?_); rintro e w2 ⟨rfl, hb2⟩; have hb2z := Below.size hb2; (try simp only [ZA, ZS, ZD, ZN] at hb2z))
      go_wp2
      go_ret
      exact ⟨retB_f, hB1.trans (hb2.mono hz1)⟩
end Go.Proofs.YtlncafhgmbhocaaGreatDoor
