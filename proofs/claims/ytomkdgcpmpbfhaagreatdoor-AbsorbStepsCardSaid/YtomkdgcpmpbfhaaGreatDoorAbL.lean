/- Contracts of functions and lemmas, used by the proofs of the given statements. No condition beyond those that each lemma names. -/
import Derived.Test.YtomkdgcpmpbfhaaGreatDoorAbL0
import Derived.Test.YtomkdgcpmpbfhaaGreatDoorAbX
import Derived.Test.YtomkdgcpmpbfhaaGreatDoorJLawTr
namespace Go.Proofs.YtomkdgcpmpbfhaaGreatDoor
open Go.RowKit
set_option linter.unusedSimpArgs false
set_option linter.unusedVariables false
set_option maxRecDepth 20000
attribute [local irreducible] nv wp win plainB validR valR canR mvE chkM codeC spr sprN chg cnt cntB ixB kept sysK plB parM outK gj mcC
/-! ## law54: awake -/
/-- a row of the example's answers -/
def Ans4 (x : Nat → Rat) (e : Ending) (w' : World) : Prop := ∃ A c, e = .returned (.tuple #[.slice A 4 c, .nilIface]) ∧ RowA w' w'.heap.size A 4 (can x)
theorem AnsV.four {x y : Nat → Rat} {e : Ending} {w' : World} (h : AnsV errM (outN' mcC.codeA mcC.nd) x mcC.codeA e w') (hn : mcC.nd = 4) (hx : ∀ k, k < 4 → x k = y k) : Ans4 y e w' := by
  obtain ⟨A, c, rfl, hr⟩ := h
  rw [mcC_code, hn, outN_0] at hr
  refine ⟨A, c, ?_, hr.congr fun k hk => congrArg canR (hx k hk)⟩
  rw [mcC_code, hn, outN_0, errM_0]
def mcEn (s : Nat) : Rat := if s = 3 then 1 else mcC.ends s
theorem mc_ends (k : Nat) : mcC.ends k = mcEn k := by
  unfold mcEn
  split
  · rename_i e; rw [e, mc_end]
  · rfl
set_option maxHeartbeats 8000000 in
theorem awake4_any (w : World) : Calls Tryz.prog 8 #[] w fun e w' => e = .returned (.bool true) ∧ Below w.heap.size w w' := by
  have en : mcC.nd = 4 := by with_unfolding_all rfl
  have es : mcC.st = 4 := by with_unfolding_all rfl
  have er : mcC.sr = 0 := by with_unfolding_all rfl
  have em : mcC.nm = 8 := by with_unfolding_all rfl
  have K1 : Hid (∀ W AM cm AD cd, ChI W W.heap.size AM cm AD cd mcC → Calls Tryz.prog 10 #[cv 4 0 AM 8 cm AD 4 cd] W fun e w' => Ans4 mcTi e w' ∧ Below W.heap.size W w') := by
    show ∀ _, _
    intro W AM cm AD cd h
    have := Times_any h mcC_small.sysS
    rw [es, er, em, en] at this
    exact this.mono fun e w' h => ⟨AnsV.four (by rw [en]; exact h.1) en mc_time, h.2⟩
  have K2 : Hid (∀ W AM cm AD cd, ChI W W.heap.size AM cm AD cd mcC → Calls Tryz.prog 11 #[cv 4 0 AM 8 cm AD 4 cd] W fun e w' => Ans4 mcVi e w' ∧ Below W.heap.size W w') := by
    show ∀ _, _
    intro W AM cm AD cd h
    have := Visits_any h mcC_small.sysS
    rw [es, er, em, en] at this
    exact this.mono fun e w' h => ⟨AnsV.four (by rw [en]; exact h.1) en mc_visit, h.2⟩
  have K3 : Hid (∀ W AM cm AD cd, ChI W W.heap.size AM cm AD cd mcC → Calls Tryz.prog 12 #[cv 4 0 AM 8 cm AD 4 cd] W fun e w' => Ans4 mcEn e w' ∧ Below W.heap.size W w') := by
    show ∀ _, _
    intro W AM cm AD cd h
    have := Ends_any h mcC_small
    rw [es, er, em, en] at this
    exact this.mono fun e w' h => ⟨AnsV.four (by rw [en]; exact h.1) en fun k _ => mc_ends k, h.2⟩
  clear en es er em
  go_enter Tryz.func8, Tryz.ntmps8
  (go_wp2_with fail; (with_reducible refine (machines_any _).mono ?_); rintro e w1 ⟨⟨AM, cm, AD, cd, rfl, hch⟩, hb1⟩; have hb1z := Below.size hb1; (try simp only [ZA, ZS, ZD, ZN] at hb1z))
  have HC := Lib.hid (fun W (hb : Below w1.heap.size w1 W) => hch.below hb)
  have hbc : Below w1.heap.size w1 (w1.alloc (.cells #[.int .i64 4, .int .i64 0, .slice AM 8 cm, .slice AD 4 cd] 25)) := (Below.refl _ _).alloc (Nat.le_refl _) _
  have HBC := Lib.hid hbc
  have hw1z : (w1.alloc (.cells #[.int .i64 4, .int .i64 0, .slice AM 8 cm, .slice AD 4 cd] 25)).heap.size = w1.heap.size + 1 := by simp
  clear hch hbc
  (go_wp2_with fail; (with_reducible refine (K1.out _ _ _ _ _ (HC.out _ HBC.out)).mono ?_); rintro e w2 ⟨⟨A2, c2, rfl, r2⟩, hb2⟩; have hb2z := Below.size hb2; (try simp only [ZA, ZS, ZD, ZN] at hb2z); have hb2c0 := fun o => below_at hb2 (w1.heap.size) o (by first | omega | (simp only [ZA, ZS, ZD, ZN]; omega)); have hb2f0 := fun o => below_fr hb2 (w1.heap.size) o (by first | omega | (simp only [ZA, ZS, ZD, ZN]; omega)))
  have hB2 : Below w1.heap.size w1 w2 := HBC.out.trans (hb2.mono (by omega))
  obtain ⟨g2, o2, s20, A20, n20, c20, B20, m20, d20, rfl, hg2, p20, p21, p22, q20⟩ := r2.at_ (show 0 < 4 by omega)
  obtain ⟨g2', o2', s21, A21, n21, c21, B21, m21, d21, e2, -, p23, p24, p25, q21⟩ := r2.at_ (show 1 < 4 by omega)
  injection e2 with e2
  injection e2 with e2 e2o
  subst e2 e2o
  have H20 := Lib.hid (fun W (hb : Below w2.heap.size w2 W) => ex_text4 (q20.kp (Kp.of_below hb)).rdr)
  have H21 := Lib.hid (fun W (hb : Below w2.heap.size w2 W) => ex_text72 (q21.kp (Kp.of_below hb)).rdr)
  have H22 := Lib.hid (fun W (hb : Below w2.heap.size w2 W) => (q20.kp (Kp.of_below hb)).canQ (L := 10) (q := 4) (by exact Sz.more (L := 1) (by refine ⟨?_, ?_⟩ <;> rw [wp_one] <;> decide) (by omega)))
  have HB2 := Lib.hid hB2
  clear r2 q20 q21 hB2
  simp only [Nat.zero_mul, Nat.add_zero, Nat.one_mul] at p20 p21 p22 p23 p24 p25
  (go_wp2_with fail; (with_reducible refine (K2.out _ _ _ _ _ (HC.out _ HB2.out)).mono ?_); rintro e w3 ⟨⟨A3, c3', rfl, r3⟩, hb3⟩; have hb3z := Below.size hb3; (try simp only [ZA, ZS, ZD, ZN] at hb3z); have hb3c0 := fun o => below_at hb3 (w1.heap.size) o (by first | omega | (simp only [ZA, ZS, ZD, ZN]; omega)); have hb3f0 := fun o => below_fr hb3 (w1.heap.size) o (by first | omega | (simp only [ZA, ZS, ZD, ZN]; omega)); have hb3c1 := fun o => below_at hb3 (g2) o (by first | omega | (simp only [ZA, ZS, ZD, ZN]; omega)); have hb3f1 := fun o => below_fr hb3 (g2) o (by first | omega | (simp only [ZA, ZS, ZD, ZN]; omega)))
  have hB3 : Below w1.heap.size w1 w3 := HB2.out.trans (hb3.mono (HB2.out.size))
  obtain ⟨g3, o3, s30, A30, n30, c30, B30, m30, d30, rfl, hg3, p30, p31, p32, q30⟩ := r3.at_ (show 0 < 4 by omega)
  obtain ⟨g3', o3', s31, A31, n31, c31, B31, m31, d31, e3, -, p33, p34, p35, q31⟩ := r3.at_ (show 1 < 4 by omega)
  injection e3 with e3
  injection e3 with e3 e3o
  subst e3 e3o
  obtain ⟨g3', o3', s32, A32, n32, c32, B32, m32, d32, e3, -, p36, p37, p38, q32⟩ := r3.at_ (show 2 < 4 by omega)
  injection e3 with e3
  injection e3 with e3 e3o
  subst e3 e3o
  have H30 := Lib.hid (fun W (hb : Below w3.heap.size w3 W) => (q30.kp (Kp.of_below hb)).canQ (L := 10) (q := 3) (by exact Sz.more (L := 1) (by refine ⟨?_, ?_⟩ <;> rw [wp_one] <;> decide) (by omega)))
  have H31 := Lib.hid (fun W (hb : Below w3.heap.size w3 W) => (q31.kp (Kp.of_below hb)).canQ (L := 10) (q := 1/2) (by exact Sz.more (L := 1) (by refine ⟨?_, ?_⟩ <;> rw [wp_one] <;> decide +kernel) (by omega)))
  have H32 := Lib.hid (fun W (hb : Below w3.heap.size w3 W) => (q32.kp (Kp.of_below hb)).canQ (L := 10) (q := 1/2) (by exact Sz.more (L := 1) (by refine ⟨?_, ?_⟩ <;> rw [wp_one] <;> decide +kernel) (by omega)))
  have HA1 := Lib.hid (fun W (hb : Below w3.heap.size w3 W) => addQ (H31.out W hb) (H32.out W hb) (by omega) (by omega))
  have HA2 := Lib.hid (fun W b v (hb : Below w3.heap.size w3 W) (hv : OwQ W b v (1/2 + 1/2)) => addQ (H30.out W hb) (hv.rq (L := 10) (by exact Sz.more (L := 1) (by refine ⟨?_, ?_⟩ <;> rw [wp_one] <;> decide +kernel) (by omega))) (by omega) (by omega))
  have HCM : Hid (∀ W b v, Below w2.heap.size w2 W → OwQ W b v (3 + (1/2 + 1/2)) → Calls Tryz.prog 35 #[v, rv s20 A20 n20 c20 B20 m20 d20] W fun e w' => e = .returned (.int .i64 0) ∧ Below W.heap.size W w') := fun W b v hb hv => by
    have := cmpQ (hv.rq (L := 10) (by exact Sz.more (L := 1) (by refine ⟨?_, ?_⟩ <;> rw [wp_one] <;> decide +kernel) (by omega))) (H22.out W hb) (by omega) (by omega)
    rw [show sgnQ (3 + (1/2 + 1/2) - 4 : Rat) = 0 by decide +kernel] at this
    exact this
  have HB3 := Lib.hid hB3
  clear r3 q30 q31 q32 hB3 H30 H31 H32 H22
  simp only [Nat.zero_mul, Nat.add_zero, Nat.one_mul, show 2 * 3 = 6 from rfl] at p30 p31 p32 p33 p34 p35 p36 p37 p38
  (go_wp2_with fail; (with_reducible refine (K3.out _ _ _ _ _ (HC.out _ HB3.out)).mono ?_); rintro e w4 ⟨⟨A4, c4, rfl, r4⟩, hb4⟩; have hb4z := Below.size hb4; (try simp only [ZA, ZS, ZD, ZN] at hb4z); have hb4c0 := fun o => below_at hb4 (g2) o (by first | omega | (simp only [ZA, ZS, ZD, ZN]; omega)); have hb4f0 := fun o => below_fr hb4 (g2) o (by first | omega | (simp only [ZA, ZS, ZD, ZN]; omega)); have hb4c1 := fun o => below_at hb4 (g3) o (by first | omega | (simp only [ZA, ZS, ZD, ZN]; omega)); have hb4f1 := fun o => below_fr hb4 (g3) o (by first | omega | (simp only [ZA, ZS, ZD, ZN]; omega)))
  obtain ⟨g4, o4, s43, A43, n43, c43, B43, m43, d43, rfl, hg4, p40, p41, p42, q43⟩ := r4.at_ (show 3 < 4 by omega)
  have H43 := Lib.hid (fun W (hb : Below w4.heap.size w4 W) => ex_text1 (q43.kp (Kp.of_below hb)).rdr)
  have h24 : Below w2.heap.size w2 w4 := hb3.trans (hb4.mono hb3.size)
  have h34 : Below w3.heap.size w3 w4 := hb4
  have HB24 := Lib.hid h24
  clear r4 q43
  simp only [show 3 * 3 = 9 from rfl] at p40 p41 p42
  have r20 : w4.cell? ⟨g2, o2, none⟩ = some (.bool s20) := (hb4c0 _).trans ((hb3c1 _).trans p20)
  have r21 : w4.cell? ⟨g2, o2 + 1, none⟩ = some (.slice A20 n20 c20) := (hb4c0 _).trans ((hb3c1 _).trans p21)
  have r22 : w4.cell? ⟨g2, o2 + 2, none⟩ = some (.slice B20 m20 d20) := (hb4c0 _).trans ((hb3c1 _).trans p22)
  have r23 : w4.cell? ⟨g2, o2 + 3, none⟩ = some (.bool s21) := (hb4c0 _).trans ((hb3c1 _).trans p23)
  have r24 : w4.cell? ⟨g2, o2 + 3 + 1, none⟩ = some (.slice A21 n21 c21) := (hb4c0 _).trans ((hb3c1 _).trans p24)
  have r25 : w4.cell? ⟨g2, o2 + 3 + 2, none⟩ = some (.slice B21 m21 d21) := (hb4c0 _).trans ((hb3c1 _).trans p25)
  have r30 : w4.cell? ⟨g3, o3, none⟩ = some (.bool s30) := (hb4c1 _).trans p30
  have r31 : w4.cell? ⟨g3, o3 + 1, none⟩ = some (.slice A30 n30 c30) := (hb4c1 _).trans p31
  have r32 : w4.cell? ⟨g3, o3 + 2, none⟩ = some (.slice B30 m30 d30) := (hb4c1 _).trans p32
  have r33 : w4.cell? ⟨g3, o3 + 3, none⟩ = some (.bool s31) := (hb4c1 _).trans p33
  have r34 : w4.cell? ⟨g3, o3 + 3 + 1, none⟩ = some (.slice A31 n31 c31) := (hb4c1 _).trans p34
  have r35 : w4.cell? ⟨g3, o3 + 3 + 2, none⟩ = some (.slice B31 m31 d31) := (hb4c1 _).trans p35
  have r36 : w4.cell? ⟨g3, o3 + 6, none⟩ = some (.bool s32) := (hb4c1 _).trans p36
  have r37 : w4.cell? ⟨g3, o3 + 6 + 1, none⟩ = some (.slice A32 n32 c32) := (hb4c1 _).trans p37
  have r38 : w4.cell? ⟨g3, o3 + 6 + 2, none⟩ = some (.slice B32 m32 d32) := (hb4c1 _).trans p38
  clear hb4c0 hb4c1 hb3c1 p20 p21 p22 p23 p24 p25 p30 p31 p32 p33 p34 p35 p36 p37 p38
  go_wp2
  dsimp only [List.append]
  go_region_held3 (fun W => W.cell? ⟨g2, o2, none⟩ = some (.bool s20) ∧ W.cell? ⟨g2, o2 + 1, none⟩ = some (.slice A20 n20 c20) ∧ W.cell? ⟨g2, o2 + 2, none⟩ = some (.slice B20 m20 d20) ∧ W.cell? ⟨g2, o2 + 3, none⟩ = some (.bool s21) ∧ W.cell? ⟨g2, o2 + 3 + 1, none⟩ = some (.slice A21 n21 c21) ∧ W.cell? ⟨g2, o2 + 3 + 2, none⟩ = some (.slice B21 m21 d21) ∧ W.cell? ⟨g3, o3, none⟩ = some (.bool s30) ∧ W.cell? ⟨g3, o3 + 1, none⟩ = some (.slice A30 n30 c30) ∧ W.cell? ⟨g3, o3 + 2, none⟩ = some (.slice B30 m30 d30) ∧ W.cell? ⟨g3, o3 + 3, none⟩ = some (.bool s31) ∧ W.cell? ⟨g3, o3 + 3 + 1, none⟩ = some (.slice A31 n31 c31) ∧ W.cell? ⟨g3, o3 + 3 + 2, none⟩ = some (.slice B31 m31 d31) ∧ W.cell? ⟨g3, o3 + 6, none⟩ = some (.bool s32) ∧ W.cell? ⟨g3, o3 + 6 + 1, none⟩ = some (.slice A32 n32 c32) ∧ W.cell? ⟨g3, o3 + 6 + 2, none⟩ = some (.slice B32 m32 d32) ∧ W.cell? ⟨g4, o4 + 9, none⟩ = some (.bool s43) ∧ W.cell? ⟨g4, o4 + 9 + 1, none⟩ = some (.slice A43 n43 c43) ∧ W.cell? ⟨g4, o4 + 9 + 2, none⟩ = some (.slice B43 m43 d43)) (go_keep)
    (first | ((go_at_call 38; (with_reducible refine (H20.out _ (by (skip); repeat' (first | (with_reducible exact Below.refl _ _) | (with_reducible assumption) | (with_reducible refine Below.alloc ?_ ?_ _) | (with_reducible refine Below.drew ?_) | (with_reducible refine below_drewN ?_ _) | (with_reducible refine Below.setCell ?_ ?_ _) | (with_reducible refine Below.trans ?_ (Below.mono (by with_reducible assumption) ?_)) | omega | (simp only [ZA, ZS, ZD, ZN]; omega) | go_size))).mono ?_); rintro e w5 ⟨rfl, hb5⟩; have hb5z := Below.size hb5; (try simp only [ZA, ZS, ZD] at hb5z); have hb5c0 := fun o => below_at hb5 (g2) o (by first | omega | (simp only [ZA, ZS, ZD]; omega)); have hb5f0 := fun o => below_fr hb5 (g2) o (by first | omega | (simp only [ZA, ZS, ZD]; omega)); have hb5l0 : g2 < (w5).heap.size := (by omega); have hb5c1 := fun o => below_at hb5 (g3) o (by first | omega | (simp only [ZA, ZS, ZD]; omega)); have hb5f1 := fun o => below_fr hb5 (g3) o (by first | omega | (simp only [ZA, ZS, ZD]; omega)); have hb5l1 : g3 < (w5).heap.size := (by omega); have hb5c2 := fun o => below_at hb5 (g4) o (by first | omega | (simp only [ZA, ZS, ZD]; omega)); have hb5f2 := fun o => below_fr hb5 (g4) o (by first | omega | (simp only [ZA, ZS, ZD]; omega)); have hb5l2 : g4 < (w5).heap.size := (by omega))) | ((go_at_call 38; (with_reducible refine (H21.out _ (by have z0 := Below.size hb5; (try simp only [ZA, ZS, ZD, ZN] at z0 ⊢; skip); repeat' (first | (with_reducible exact Below.refl _ _) | (with_reducible assumption) | (with_reducible refine Below.alloc ?_ ?_ _) | (with_reducible refine Below.drew ?_) | (with_reducible refine below_drewN ?_ _) | (with_reducible refine Below.setCell ?_ ?_ _) | (with_reducible refine Below.trans ?_ (Below.mono (by with_reducible assumption) ?_)) | omega | (simp only [ZA, ZS, ZD, ZN]; omega) | go_size))).mono ?_); rintro e w6 ⟨rfl, hb6⟩; have hb6z := Below.size hb6; (try simp only [ZA, ZS, ZD] at hb6z); have hb6c0 := fun o => below_at hb6 (g2) o (by first | omega | (simp only [ZA, ZS, ZD]; omega)); have hb6f0 := fun o => below_fr hb6 (g2) o (by first | omega | (simp only [ZA, ZS, ZD]; omega)); have hb6l0 : g2 < (w6).heap.size := (by omega); have hb6c1 := fun o => below_at hb6 (g3) o (by first | omega | (simp only [ZA, ZS, ZD]; omega)); have hb6f1 := fun o => below_fr hb6 (g3) o (by first | omega | (simp only [ZA, ZS, ZD]; omega)); have hb6l1 : g3 < (w6).heap.size := (by omega); have hb6c2 := fun o => below_at hb6 (g4) o (by first | omega | (simp only [ZA, ZS, ZD]; omega)); have hb6f2 := fun o => below_fr hb6 (g4) o (by first | omega | (simp only [ZA, ZS, ZD]; omega)); have hb6l2 : g4 < (w6).heap.size := (by omega))) | ((go_at_call 38; (with_reducible refine (H43.out _ (by have z0 := Below.size hb5; have z1 := Below.size hb6; (try simp only [ZA, ZS, ZD, ZN] at z0 z1 ⊢; skip); repeat' (first | (with_reducible exact Below.refl _ _) | (with_reducible assumption) | (with_reducible refine Below.alloc ?_ ?_ _) | (with_reducible refine Below.drew ?_) | (with_reducible refine below_drewN ?_ _) | (with_reducible refine Below.setCell ?_ ?_ _) | (with_reducible refine Below.trans ?_ (Below.mono (by with_reducible assumption) ?_)) | omega | (simp only [ZA, ZS, ZD, ZN]; omega) | go_size))).mono ?_); rintro e w7 ⟨rfl, hb7⟩; have hb7z := Below.size hb7; (try simp only [ZA, ZS, ZD] at hb7z); have hb7c0 := fun o => below_at hb7 (g2) o (by first | omega | (simp only [ZA, ZS, ZD]; omega)); have hb7f0 := fun o => below_fr hb7 (g2) o (by first | omega | (simp only [ZA, ZS, ZD]; omega)); have hb7l0 : g2 < (w7).heap.size := (by omega); have hb7c1 := fun o => below_at hb7 (g3) o (by first | omega | (simp only [ZA, ZS, ZD]; omega)); have hb7f1 := fun o => below_fr hb7 (g3) o (by first | omega | (simp only [ZA, ZS, ZD]; omega)); have hb7l1 : g3 < (w7).heap.size := (by omega); have hb7c2 := fun o => below_at hb7 (g4) o (by first | omega | (simp only [ZA, ZS, ZD]; omega)); have hb7f2 := fun o => below_fr hb7 (g4) o (by first | omega | (simp only [ZA, ZS, ZD]; omega)); have hb7l2 : g4 < (w7).heap.size := (by omega))) | ((go_at_call 27; (with_reducible refine (HA1.out _ (by have z0 := Below.size hb5; have z1 := Below.size hb6; have z2 := Below.size hb7; (try simp only [ZA, ZS, ZD, ZN] at z0 z1 z2 ⊢; skip); repeat' (first | (with_reducible exact Below.refl _ _) | (with_reducible assumption) | (with_reducible refine Below.alloc ?_ ?_ _) | (with_reducible refine Below.drew ?_) | (with_reducible refine below_drewN ?_ _) | (with_reducible refine Below.setCell ?_ ?_ _) | (with_reducible refine Below.trans ?_ (Below.mono (by with_reducible assumption) ?_)) | omega | (simp only [ZA, ZS, ZD, ZN]; omega) | go_size))).mono ?_); rintro e w8 ⟨⟨v8, rfl, own8⟩, hb8⟩; have hb8z := Below.size hb8; (try simp only [ZA, ZS, ZD] at hb8z); have hb8c0 := fun o => below_at hb8 (g2) o (by first | omega | (simp only [ZA, ZS, ZD]; omega)); have hb8f0 := fun o => below_fr hb8 (g2) o (by first | omega | (simp only [ZA, ZS, ZD]; omega)); have hb8l0 : g2 < (w8).heap.size := (by omega); have hb8c1 := fun o => below_at hb8 (g3) o (by first | omega | (simp only [ZA, ZS, ZD]; omega)); have hb8f1 := fun o => below_fr hb8 (g3) o (by first | omega | (simp only [ZA, ZS, ZD]; omega)); have hb8l1 : g3 < (w8).heap.size := (by omega); have hb8c2 := fun o => below_at hb8 (g4) o (by first | omega | (simp only [ZA, ZS, ZD]; omega)); have hb8f2 := fun o => below_fr hb8 (g4) o (by first | omega | (simp only [ZA, ZS, ZD]; omega)); have hb8l2 : g4 < (w8).heap.size := (by omega)); obtain ⟨s8, A8, n8, c8, B8, m8, d8, rfl⟩ := own8.form) | ((go_at_call 27; (with_reducible refine (HA2.out _ _ _ (by have z0 := Below.size hb5; have z1 := Below.size hb6; have z2 := Below.size hb7; have z3 := Below.size hb8; (try simp only [ZA, ZS, ZD, ZN] at z0 z1 z2 z3 ⊢; skip); repeat' (first | (with_reducible exact Below.refl _ _) | (with_reducible assumption) | (with_reducible refine Below.alloc ?_ ?_ _) | (with_reducible refine Below.drew ?_) | (with_reducible refine below_drewN ?_ _) | (with_reducible refine Below.setCell ?_ ?_ _) | (with_reducible refine Below.trans ?_ (Below.mono (by with_reducible assumption) ?_)) | omega | (simp only [ZA, ZS, ZD, ZN]; omega) | go_size)) own8).mono ?_); rintro e w9 ⟨⟨v9, rfl, own9⟩, hb9⟩; have hb9z := Below.size hb9; (try simp only [ZA, ZS, ZD] at hb9z); have hb9c0 := fun o => below_at hb9 (g2) o (by first | omega | (simp only [ZA, ZS, ZD]; omega)); have hb9f0 := fun o => below_fr hb9 (g2) o (by first | omega | (simp only [ZA, ZS, ZD]; omega)); have hb9l0 : g2 < (w9).heap.size := (by omega); have hb9c1 := fun o => below_at hb9 (g3) o (by first | omega | (simp only [ZA, ZS, ZD]; omega)); have hb9f1 := fun o => below_fr hb9 (g3) o (by first | omega | (simp only [ZA, ZS, ZD]; omega)); have hb9l1 : g3 < (w9).heap.size := (by omega); have hb9c2 := fun o => below_at hb9 (g4) o (by first | omega | (simp only [ZA, ZS, ZD]; omega)); have hb9f2 := fun o => below_fr hb9 (g4) o (by first | omega | (simp only [ZA, ZS, ZD]; omega)); have hb9l2 : g4 < (w9).heap.size := (by omega)); obtain ⟨s9, A9, n9, c9, B9, m9, d9, rfl⟩ := own9.form) | ((go_at_call 35; (with_reducible refine (HCM.out _ _ _ (by have z0 := Below.size hb5; have z1 := Below.size hb6; have z2 := Below.size hb7; have z3 := Below.size hb8; have z4 := Below.size hb9; (try simp only [ZA, ZS, ZD, ZN] at z0 z1 z2 z3 z4 ⊢; skip); repeat' (first | (with_reducible exact Below.refl _ _) | (with_reducible assumption) | (with_reducible refine Below.alloc ?_ ?_ _) | (with_reducible refine Below.drew ?_) | (with_reducible refine below_drewN ?_ _) | (with_reducible refine Below.setCell ?_ ?_ _) | (with_reducible refine Below.trans ?_ (Below.mono (by with_reducible assumption) ?_)) | omega | (simp only [ZA, ZS, ZD, ZN]; omega) | go_size)) own9).mono ?_); rintro e w10 ⟨rfl, hb10⟩; have hb10z := Below.size hb10; (try simp only [ZA, ZS, ZD] at hb10z); have hb10c0 := fun o => below_at hb10 (g2) o (by first | omega | (simp only [ZA, ZS, ZD]; omega)); have hb10f0 := fun o => below_fr hb10 (g2) o (by first | omega | (simp only [ZA, ZS, ZD]; omega)); have hb10l0 : g2 < (w10).heap.size := (by omega); have hb10c1 := fun o => below_at hb10 (g3) o (by first | omega | (simp only [ZA, ZS, ZD]; omega)); have hb10f1 := fun o => below_fr hb10 (g3) o (by first | omega | (simp only [ZA, ZS, ZD]; omega)); have hb10l1 : g3 < (w10).heap.size := (by omega); have hb10c2 := fun o => below_at hb10 (g4) o (by first | omega | (simp only [ZA, ZS, ZD]; omega)); have hb10f2 := fun o => below_fr hb10 (g4) o (by first | omega | (simp only [ZA, ZS, ZD]; omega)); have hb10l2 : g4 < (w10).heap.size := (by omega))) | fail)
  all_goals
    go_wp2
    go_ret
    exact ⟨rfl, hb1.trans (Below.mono ((HBC.out.trans (Below.mono hb2 (by omega))).trans (Below.mono ((by have z0 := Below.size hb5; have z1 := Below.size hb6; have z2 := Below.size hb7; have z3 := Below.size hb8; have z4 := Below.size hb9; have z5 := Below.size hb10; (try simp only [ZA, ZS, ZD, ZN] at z0 z1 z2 z3 z4 z5 ⊢; skip); repeat' (first | (with_reducible exact Below.refl _ _) | (with_reducible assumption) | (with_reducible refine Below.alloc ?_ ?_ _) | (with_reducible refine Below.drew ?_) | (with_reducible refine below_drewN ?_ _) | (with_reducible refine Below.setCell ?_ ?_ _) | (with_reducible refine Below.trans ?_ (Below.mono (by with_reducible assumption) ?_)) | omega | (simp only [ZA, ZS, ZD, ZN]; omega) | go_size)) : Below w2.heap.size w2 w10) HB2.out.size)) (by omega))⟩
end Go.Proofs.YtomkdgcpmpbfhaaGreatDoor
