/- Contracts of functions and lemmas, used by the proofs of the given statements. No condition beyond those that each lemma names. -/
import Derived.Test.YtmebdlilbnadgaaGreatDoorJTrW4
namespace Go.Proofs.YtmebdlilbnadgaaGreatDoor
open Go.RowKit
set_option linter.unusedSimpArgs false
set_option linter.unusedVariables false
set_option maxRecDepth 20000
attribute [local irreducible] nv wp win plainB validR valR canR mvE chkM codeC exK maxF
/-! ## package transient, Step at great numbers (printed by genB.py) -/
theorem step1_anyB {w : World} {b0 : Nat} {v : Value} {r : Rw} (h : RdS w b0 v r) (h1 : r.2.1.length ≤ 1000000000) (h2 : r.2.2.length ≤ 1000000000) :
    Calls Tryz.prog 77 #[v] w fun e w' => e = .returned (.bool (!validR r)) ∧ Below w.heap.size w w' := by
  have K := Lib.hid (fun W (hb : Below w.heap.size w W) => validSB (h.kp (Kp.of_below hb)) h1 h2)
  obtain ⟨s, A, n, c, B, m, d, rfl⟩ := h.form
  clear h
  go_enter Tryz.func77, Tryz.ntmps77
  (go_wp2_with fail; (with_reducible refine (K.out _ (by (skip); repeat' (first | (with_reducible exact Below.refl _ _) | (with_reducible assumption) | (with_reducible refine Below.alloc ?_ ?_ _) | (with_reducible refine Below.drew ?_) | (with_reducible refine below_drewN ?_ _) | (with_reducible refine Below.setCell ?_ ?_ _) | (with_reducible refine Below.trans ?_ (Below.mono (by with_reducible assumption) ?_)) | omega | (simp only [World.size_alloc, World.size_setCell, World.size_drew, size_drewN']; omega) | go_size))).mono ?_); rintro e w1 ⟨rfl, hb1⟩; have hb1z := Below.size hb1; (try simp only [World.size_alloc, World.size_setCell, World.size_drew, size_drewN'] at hb1z))
  go_wp2
  go_ret
  exact ⟨rfl, (by have z0 := Below.size hb1; (try simp only [World.size_alloc, World.size_setCell, World.size_drew, size_drewN'] at z0 ⊢; skip); repeat' (first | (with_reducible exact Below.refl _ _) | (with_reducible assumption) | (with_reducible refine Below.alloc ?_ ?_ _) | (with_reducible refine Below.drew ?_) | (with_reducible refine below_drewN ?_ _) | (with_reducible refine Below.setCell ?_ ?_ _) | (with_reducible refine Below.trans ?_ (Below.mono (by with_reducible assumption) ?_)) | omega | (simp only [World.size_alloc, World.size_setCell, World.size_drew, size_drewN']; omega) | go_size))⟩
set_option maxHeartbeats 4000000 in
theorem index_anyB {w : World} {b0 n c : Nat} {A : Option Addr} {R : Nat → Rw} (h : RowA w b0 A n R) (hz : BigS n R) (hn : n ≤ 1000000) :
    Calls Tryz.prog 115 #[.slice A n c, .func (.func 77) #[] #[]] w fun e w' => (∃ z : Int, e = .returned (.int .i64 z) ∧ decide (0 ≤ z) = !allV n R) ∧ Below w.heap.size w w' := by
  have HA := Lib.hid h
  have HZ := Lib.hid hz
  clear h hz
  go_enter Tryz.func115, Tryz.ntmps115
  go_wp2
  go_loopw [8] (fun i wr => ∃ k : Nat, k ≤ n ∧ i = .int .i64 (k : Int) ∧ (∀ j, j < k → validR (R j) = true) ∧ Below w.heap.size w wr) (fun i _ => n - (intOf i).toNat)
  case atStart => exact ⟨0, Nat.zero_le _, rfl, fun j hj => by omega, Below.refl _ _⟩
  case round =>
    obtain ⟨k, hk, rfl, hv, hb⟩ := hrel
    have HV := Lib.hid hv
    clear hv
    have hbz := hb.size
    by_cases hlt : k < n
    · obtain ⟨b, off, s1, A1, n1, c1, B1, m1, d1, rfl, hbb, f0, f1, f2, r1⟩ := HA.out.at_ hlt
      obtain ⟨z1, z2⟩ := HZ.out k hlt
      have x0 := (hb.cell (lt_of_cell f0)).trans f0
      have x1 := (hb.cell (lt_of_cell f1)).trans f1
      have x2 := (hb.cell (lt_of_cell f2)).trans f2
      have K := Lib.hid (fun W (hb' : Below wr.heap.size wr W) => step1_anyB (r1.kp (Kp.of_below (hb.trans (hb'.mono hbz)))) z1 z2)
      have hk0 : (0 : Int) ≤ (k : Int) := by omega
      have hki : (k : Int) < (n : Int) := by omega
      clear f0 f1 f2 r1
      cases hv : validR (R k)
      · rw [hv] at K
        have HN := Lib.hid (allV_no hlt hv)
        clear hv
        (go_wp2_with fail; (with_reducible refine (K.out _ (by (skip); repeat' (first | (with_reducible exact Below.refl _ _) | (with_reducible assumption) | (with_reducible refine Below.alloc ?_ ?_ _) | (with_reducible refine Below.drew ?_) | (with_reducible refine below_drewN ?_ _) | (with_reducible refine Below.setCell ?_ ?_ _) | (with_reducible refine Below.trans ?_ (Below.mono (by with_reducible assumption) ?_)) | omega | (simp only [World.size_alloc, World.size_setCell, World.size_drew, size_drewN']; omega) | go_size))).mono ?_); rintro e w2 ⟨rfl, hb2⟩; have hb2z := Below.size hb2; (try simp only [World.size_alloc, World.size_setCell, World.size_drew, size_drewN'] at hb2z))
        go_wp2
        go_ret
        exact ⟨⟨k, rfl, by rw [HN.out]; simp⟩, hb.trans (by have z0 := Below.size hb2; (try simp only [World.size_alloc, World.size_setCell, World.size_drew, size_drewN'] at z0 ⊢; skip); repeat' (first | (with_reducible exact Below.refl _ _) | (with_reducible assumption) | (with_reducible refine Below.alloc ?_ ?_ _) | (with_reducible refine Below.drew ?_) | (with_reducible refine below_drewN ?_ _) | (with_reducible refine Below.setCell ?_ ?_ _) | (with_reducible refine Below.trans ?_ (Below.mono (by with_reducible assumption) ?_)) | omega | (simp only [World.size_alloc, World.size_setCell, World.size_drew, size_drewN']; omega) | go_size))⟩
      · rw [hv] at K
        have HN := Lib.hid hv
        clear hv
        (go_wp2_with fail; (with_reducible refine (K.out _ (by (skip); repeat' (first | (with_reducible exact Below.refl _ _) | (with_reducible assumption) | (with_reducible refine Below.alloc ?_ ?_ _) | (with_reducible refine Below.drew ?_) | (with_reducible refine below_drewN ?_ _) | (with_reducible refine Below.setCell ?_ ?_ _) | (with_reducible refine Below.trans ?_ (Below.mono (by with_reducible assumption) ?_)) | omega | (simp only [World.size_alloc, World.size_setCell, World.size_drew, size_drewN']; omega) | go_size))).mono ?_); rintro e w2 ⟨rfl, hb2⟩; have hb2z := Below.size hb2; (try simp only [World.size_alloc, World.size_setCell, World.size_drew, size_drewN'] at hb2z))
        go_wp2
        go_roundw
        case rel =>
          refine ⟨k + 1, by omega, by go_num, fun j hj => ?_, hb.trans (by have z0 := Below.size hb2; (try simp only [World.size_alloc, World.size_setCell, World.size_drew, size_drewN'] at z0 ⊢; skip); repeat' (first | (with_reducible exact Below.refl _ _) | (with_reducible assumption) | (with_reducible refine Below.alloc ?_ ?_ _) | (with_reducible refine Below.drew ?_) | (with_reducible refine below_drewN ?_ _) | (with_reducible refine Below.setCell ?_ ?_ _) | (with_reducible refine Below.trans ?_ (Below.mono (by with_reducible assumption) ?_)) | omega | (simp only [World.size_alloc, World.size_setCell, World.size_drew, size_drewN']; omega) | go_size))⟩
          by_cases e : j = k
          · rw [e]; exact HN.out
          · exact HV.out j (by omega)
        case measure => simp [intOf]; omega
    · have : k = n := by omega
      subst this
      have HN := Lib.hid (allV_yes HV.out)
      go_wp2
      go_ret
      exact ⟨⟨-1, rfl, by rw [HN.out]; rfl⟩, hb⟩
theorem contains_anyB {w : World} {b0 n c : Nat} {A : Option Addr} {R : Nat → Rw} (h : RowA w b0 A n R) (hz : BigS n R) (hn : n ≤ 1000000) :
    Calls Tryz.prog 76 #[.slice A n c, .func (.func 77) #[] #[]] w fun e w' => e = .returned (.bool (!allV n R)) ∧ Below w.heap.size w w' := by
  have K := Lib.hid (index_anyB (c := c) h hz hn)
  clear h hz
  go_enter Tryz.func76, Tryz.ntmps76
  (go_wp2_with fail; (with_reducible refine (K.out).mono ?_); rintro e w2 ⟨⟨z, rfl, hz⟩, hb2⟩; have hb2z := Below.size hb2; (try simp only [World.size_alloc, World.size_setCell, World.size_drew, size_drewN'] at hb2z))
  have HZ := Lib.hid hz
  clear hz
  go_wp2
  go_ret
  exact ⟨by rw [← HZ.out]; rfl, hb2⟩
set_option maxHeartbeats 4000000 in
theorem Step_anyB {w : World} {AM AD AV : Option Addr} {cm cd L L2 n ca : Nat} {c : Chn} {v : Value} {r : Rw} {R : Nat → Rw} (h : ChI w w.heap.size AM cm AD cd c) (hs : ChS c L) (hr : RdS w w.heap.size v r) (hr1 : r.2.1.length ≤ 4) (hr2 : r.2.2.length ≤ 4)
    (hv : RowA w w.heap.size AV n R) (hvs : BigS n R) (hn : n ≤ 1000000) (hst : c.codeT r n R = 0 → StS c (valR r) (vecQ n R) L2) :
    Calls Tryz.prog 40 #[cv c.st c.sr AM c.nm cm AD c.nd cd, v, .slice AV n ca] w fun e w' => RetFe w.heap.size w.heap.size n (c.stepQ false (valR r) (vecQ n R)) (c.codeT r n R) e w' ∧ Below w.heap.size w w' := by
  have K1 := Lib.hid (fun W (hb : Below w.heap.size w W) => check_tr (h.below hb) hs ((hr.kp (Kp.of_below hb)).base hb.size) hr1 hr2)
  have K2 := Lib.hid (fun W (hb : Below w.heap.size w W) => contains_anyB (c := ca) (hv.below hb) hvs hn)
  have hT : c.codeT r n R = if c.codeR r ≠ 0 then c.codeR r else if n ≠ c.nd then 11 else if allV n R then 0 else 2 := rfl
  have hR0 := Chn.codeR_0 (c := c) (r := r)
  have hok := Chn.ok_iff (c := c)
  obtain ⟨cr, hcr⟩ : ∃ cr, cr = c.codeR r := ⟨_, rfl⟩
  obtain ⟨ct, hct⟩ : ∃ ct, ct = c.codeT r n R := ⟨_, rfl⟩
  obtain ⟨X, hX⟩ : ∃ X, X = c.stepQ false (valR r) (vecQ n R) := ⟨_, rfl⟩
  rw [← hcr] at K1 hT hR0
  rw [← hct] at hT hst ⊢
  rw [← hX]
  obtain ⟨s0, A0, n0, c0, B0, m0, d0, rfl⟩ := hr.form
  by_cases h0 : cr = 0
  · obtain ⟨k1, k2, k3⟩ := hR0 h0
    have ok := hok.1 k1
    rw [if_neg (by omega)] at hT
    rw [h0, errM_0] at K1
    have hst2 := ok.st
    by_cases h1 : n = c.nd
    · rw [if_neg (by omega)] at hT
      have e5 : ((n : Int) != c.st) = false := by rw [hst2, h1]; simp
      cases ha : allV n R
      · rw [ha, if_neg (by simp)] at hT
        rw [ha] at K2
        have HT := Lib.hid hT
        clear hT hR0 hok hcr hct hX k1 k2 k3 ok h0 h1 ha h hs hr hv hvs hst hst2
        obtain ⟨st, sr, nm, F, T, R', nd, D⟩ := c
        simp only at *
        go_enter Tryz.func40, Tryz.ntmps40
        (go_wp2_with fail; (with_reducible refine (K1.out _ (by (skip); repeat' (first | (with_reducible exact Below.refl _ _) | (with_reducible assumption) | (with_reducible refine Below.alloc ?_ ?_ _) | (with_reducible refine Below.drew ?_) | (with_reducible refine below_drewN ?_ _) | (with_reducible refine Below.setCell ?_ ?_ _) | (with_reducible refine Below.trans ?_ (Below.mono (by with_reducible assumption) ?_)) | omega | (simp only [World.size_alloc, World.size_setCell, World.size_drew, size_drewN']; omega) | go_size))).mono ?_); rintro e w1 ⟨rfl, hb1⟩; have hb1z := Below.size hb1; (try simp only [World.size_alloc, World.size_setCell, World.size_drew, size_drewN'] at hb1z); have hb1c0 := fun o => below_at hb1 (w.heap.size) o (by first | omega | (simp only [World.size_alloc, World.size_setCell, World.size_drew, size_drewN']; omega)); have hb1f0 := fun o => below_fr hb1 (w.heap.size) o (by first | omega | (simp only [World.size_alloc, World.size_setCell, World.size_drew, size_drewN']; omega)); have hb1c1 := fun o => below_at hb1 (w.heap.size + 1) o (by first | omega | (simp only [World.size_alloc, World.size_setCell, World.size_drew, size_drewN']; omega)); have hb1f1 := fun o => below_fr hb1 (w.heap.size + 1) o (by first | omega | (simp only [World.size_alloc, World.size_setCell, World.size_drew, size_drewN']; omega)))
        (go_wp2_with fail; (with_reducible refine (K2.out _ (by have z0 := Below.size hb1; (try simp only [World.size_alloc, World.size_setCell, World.size_drew, size_drewN'] at z0 ⊢; skip); repeat' (first | (with_reducible exact Below.refl _ _) | (with_reducible assumption) | (with_reducible refine Below.alloc ?_ ?_ _) | (with_reducible refine Below.drew ?_) | (with_reducible refine below_drewN ?_ _) | (with_reducible refine Below.setCell ?_ ?_ _) | (with_reducible refine Below.trans ?_ (Below.mono (by with_reducible assumption) ?_)) | omega | (simp only [World.size_alloc, World.size_setCell, World.size_drew, size_drewN']; omega) | go_size))).mono ?_); rintro e w2 ⟨rfl, hb2⟩; have hb2z := Below.size hb2; (try simp only [World.size_alloc, World.size_setCell, World.size_drew, size_drewN'] at hb2z); have hb2c0 := fun o => below_at hb2 (w.heap.size) o (by first | omega | (simp only [World.size_alloc, World.size_setCell, World.size_drew, size_drewN']; omega)); have hb2f0 := fun o => below_fr hb2 (w.heap.size) o (by first | omega | (simp only [World.size_alloc, World.size_setCell, World.size_drew, size_drewN']; omega)); have hb2c1 := fun o => below_at hb2 (w.heap.size + 1) o (by first | omega | (simp only [World.size_alloc, World.size_setCell, World.size_drew, size_drewN']; omega)); have hb2f1 := fun o => below_fr hb2 (w.heap.size + 1) o (by first | omega | (simp only [World.size_alloc, World.size_setCell, World.size_drew, size_drewN']; omega)))
        go_wp2
        go_ret2
        exact ⟨retFe_n (by rw [HT.out]; decide) (by rw [HT.out]; rfl), (by have z0 := Below.size hb1; have z1 := Below.size hb2; (try simp only [World.size_alloc, World.size_setCell, World.size_drew, size_drewN'] at z0 z1 ⊢; skip); repeat' (first | (with_reducible exact Below.refl _ _) | (with_reducible assumption) | (with_reducible refine Below.alloc ?_ ?_ _) | (with_reducible refine Below.drew ?_) | (with_reducible refine below_drewN ?_ _) | (with_reducible refine Below.setCell ?_ ?_ _) | (with_reducible refine Below.trans ?_ (Below.mono (by with_reducible assumption) ?_)) | omega | (simp only [World.size_alloc, World.size_setCell, World.size_drew, size_drewN']; omega) | go_size))⟩
      · rw [ha, if_pos rfl] at hT
        have hv2 := hv.can_ ha
        rw [ha] at K2
        have hrc : RdS w w.heap.size (rv s0 A0 n0 c0 B0 m0 d0) (canR (valR r)) := by rw [valR_pos_can hr.ok k2]; exact hr
        rw [h1] at hv2 hX hst
        have K3 := Lib.hid (fun W (hb : Below w.heap.size w W) => step_any (ca := ca) false (h.below hb) ok ((hrc.kp (Kp.of_below hb)).base hb.size) (fun e => by rw [e] at k2; exact absurd k2 (by decide)) (hv2.below hb) hb.size (hst hT))
        rw [← h1] at K3
        have K3' : Hid (∀ W, Below w.heap.size w W → Calls Tryz.prog 79 #[cv c.st c.sr AM c.nm cm AD n cd, rv s0 A0 n0 c0 B0 m0 d0, .slice AV n ca, .bool false] W fun e w' => RetF w.heap.size W.heap.size n X e w' ∧ Below W.heap.size W w') := by rw [hX, ← h1]; exact K3
        have HT := Lib.hid hT
        clear hT hR0 hok hcr hct hX k1 k2 k3 ok h0 ha h hs hr hv hvs hst hst2 hv2 hrc K3
        obtain ⟨st, sr, nm, F, T, R', nd, D⟩ := c
        simp only at *
        subst h1
        go_enter Tryz.func40, Tryz.ntmps40
        (go_wp2_with fail; (with_reducible refine (K1.out _ (by (skip); repeat' (first | (with_reducible exact Below.refl _ _) | (with_reducible assumption) | (with_reducible refine Below.alloc ?_ ?_ _) | (with_reducible refine Below.drew ?_) | (with_reducible refine below_drewN ?_ _) | (with_reducible refine Below.setCell ?_ ?_ _) | (with_reducible refine Below.trans ?_ (Below.mono (by with_reducible assumption) ?_)) | omega | (simp only [World.size_alloc, World.size_setCell, World.size_drew, size_drewN']; omega) | go_size))).mono ?_); rintro e w1 ⟨rfl, hb1⟩; have hb1z := Below.size hb1; (try simp only [World.size_alloc, World.size_setCell, World.size_drew, size_drewN'] at hb1z); have hb1c0 := fun o => below_at hb1 (w.heap.size) o (by first | omega | (simp only [World.size_alloc, World.size_setCell, World.size_drew, size_drewN']; omega)); have hb1f0 := fun o => below_fr hb1 (w.heap.size) o (by first | omega | (simp only [World.size_alloc, World.size_setCell, World.size_drew, size_drewN']; omega)); have hb1c1 := fun o => below_at hb1 (w.heap.size + 1) o (by first | omega | (simp only [World.size_alloc, World.size_setCell, World.size_drew, size_drewN']; omega)); have hb1f1 := fun o => below_fr hb1 (w.heap.size + 1) o (by first | omega | (simp only [World.size_alloc, World.size_setCell, World.size_drew, size_drewN']; omega)))
        (go_wp2_with fail; (with_reducible refine (K2.out _ (by have z0 := Below.size hb1; (try simp only [World.size_alloc, World.size_setCell, World.size_drew, size_drewN'] at z0 ⊢; skip); repeat' (first | (with_reducible exact Below.refl _ _) | (with_reducible assumption) | (with_reducible refine Below.alloc ?_ ?_ _) | (with_reducible refine Below.drew ?_) | (with_reducible refine below_drewN ?_ _) | (with_reducible refine Below.setCell ?_ ?_ _) | (with_reducible refine Below.trans ?_ (Below.mono (by with_reducible assumption) ?_)) | omega | (simp only [World.size_alloc, World.size_setCell, World.size_drew, size_drewN']; omega) | go_size))).mono ?_); rintro e w2 ⟨rfl, hb2⟩; have hb2z := Below.size hb2; (try simp only [World.size_alloc, World.size_setCell, World.size_drew, size_drewN'] at hb2z); have hb2c0 := fun o => below_at hb2 (w.heap.size) o (by first | omega | (simp only [World.size_alloc, World.size_setCell, World.size_drew, size_drewN']; omega)); have hb2f0 := fun o => below_fr hb2 (w.heap.size) o (by first | omega | (simp only [World.size_alloc, World.size_setCell, World.size_drew, size_drewN']; omega)); have hb2c1 := fun o => below_at hb2 (w.heap.size + 1) o (by first | omega | (simp only [World.size_alloc, World.size_setCell, World.size_drew, size_drewN']; omega)); have hb2f1 := fun o => below_fr hb2 (w.heap.size + 1) o (by first | omega | (simp only [World.size_alloc, World.size_setCell, World.size_drew, size_drewN']; omega)))
        (go_wp2_with fail; (with_reducible refine (K3'.out _ (by have z0 := Below.size hb1; have z1 := Below.size hb2; (try simp only [World.size_alloc, World.size_setCell, World.size_drew, size_drewN'] at z0 z1 ⊢; skip); repeat' (first | (with_reducible exact Below.refl _ _) | (with_reducible assumption) | (with_reducible refine Below.alloc ?_ ?_ _) | (with_reducible refine Below.drew ?_) | (with_reducible refine below_drewN ?_ _) | (with_reducible refine Below.setCell ?_ ?_ _) | (with_reducible refine Below.trans ?_ (Below.mono (by with_reducible assumption) ?_)) | omega | (simp only [World.size_alloc, World.size_setCell, World.size_drew, size_drewN']; omega) | go_size))).mono ?_); rintro e w3 ⟨⟨A9, c9, rfl, own9⟩, hb3⟩; have hb3z := Below.size hb3; (try simp only [World.size_alloc, World.size_setCell, World.size_drew, size_drewN'] at hb3z))
        go_wp2
        go_ret2
        exact ⟨retFe_0 HT.out (OwF.base_ own9 (by have := hb1.size; have := hb2.size; simp at *; omega)), (by have z0 := Below.size hb1; have z1 := Below.size hb2; have z2 := Below.size hb3; (try simp only [World.size_alloc, World.size_setCell, World.size_drew, size_drewN'] at z0 z1 z2 ⊢; skip); repeat' (first | (with_reducible exact Below.refl _ _) | (with_reducible assumption) | (with_reducible refine Below.alloc ?_ ?_ _) | (with_reducible refine Below.drew ?_) | (with_reducible refine below_drewN ?_ _) | (with_reducible refine Below.setCell ?_ ?_ _) | (with_reducible refine Below.trans ?_ (Below.mono (by with_reducible assumption) ?_)) | omega | (simp only [World.size_alloc, World.size_setCell, World.size_drew, size_drewN']; omega) | go_size))⟩
    · rw [if_pos h1] at hT
      have e5 : ((n : Int) != c.st) = true := by rw [hst2, bne_iff_ne]; omega
      have e6 : ((n : Int) == c.st) = false := by rw [hst2]; exact beq_eq_false_iff_ne.2 (by omega)
      have HT := Lib.hid hT
      clear hT hR0 hok hcr hct hX k1 k2 k3 ok h0 h1 h hs hr hv hvs hst hst2
      obtain ⟨st, sr, nm, F, T, R', nd, D⟩ := c
      simp only at *
      go_enter Tryz.func40, Tryz.ntmps40
      (go_wp2_with fail; (with_reducible refine (K1.out _ (by (skip); repeat' (first | (with_reducible exact Below.refl _ _) | (with_reducible assumption) | (with_reducible refine Below.alloc ?_ ?_ _) | (with_reducible refine Below.drew ?_) | (with_reducible refine below_drewN ?_ _) | (with_reducible refine Below.setCell ?_ ?_ _) | (with_reducible refine Below.trans ?_ (Below.mono (by with_reducible assumption) ?_)) | omega | (simp only [World.size_alloc, World.size_setCell, World.size_drew, size_drewN']; omega) | go_size))).mono ?_); rintro e w1 ⟨rfl, hb1⟩; have hb1z := Below.size hb1; (try simp only [World.size_alloc, World.size_setCell, World.size_drew, size_drewN'] at hb1z); have hb1c0 := fun o => below_at hb1 (w.heap.size) o (by first | omega | (simp only [World.size_alloc, World.size_setCell, World.size_drew, size_drewN']; omega)); have hb1f0 := fun o => below_fr hb1 (w.heap.size) o (by first | omega | (simp only [World.size_alloc, World.size_setCell, World.size_drew, size_drewN']; omega)); have hb1c1 := fun o => below_at hb1 (w.heap.size + 1) o (by first | omega | (simp only [World.size_alloc, World.size_setCell, World.size_drew, size_drewN']; omega)); have hb1f1 := fun o => below_fr hb1 (w.heap.size + 1) o (by first | omega | (simp only [World.size_alloc, World.size_setCell, World.size_drew, size_drewN']; omega)))
      go_wp2
      go_ret2
      exact ⟨retFe_n (by rw [HT.out]; decide) (by rw [HT.out]; rfl), (by have z0 := Below.size hb1; (try simp only [World.size_alloc, World.size_setCell, World.size_drew, size_drewN'] at z0 ⊢; skip); repeat' (first | (with_reducible exact Below.refl _ _) | (with_reducible assumption) | (with_reducible refine Below.alloc ?_ ?_ _) | (with_reducible refine Below.drew ?_) | (with_reducible refine below_drewN ?_ _) | (with_reducible refine Below.setCell ?_ ?_ _) | (with_reducible refine Below.trans ?_ (Below.mono (by with_reducible assumption) ?_)) | omega | (simp only [World.size_alloc, World.size_setCell, World.size_drew, size_drewN']; omega) | go_size))⟩
  · have hE := errM_n h0
    rw [if_pos h0] at hT
    rw [hE] at K1
    have HT := Lib.hid hT
    have H0 := Lib.hid h0
    have HE := Lib.hid hE
    clear hT hR0 hok hcr hct hX h0 h hs hr hv hvs hst hE
    obtain ⟨st, sr, nm, F, T, R', nd, D⟩ := c
    simp only at *
    go_enter Tryz.func40, Tryz.ntmps40
    (go_wp2_with fail; (with_reducible refine (K1.out _ (by (skip); repeat' (first | (with_reducible exact Below.refl _ _) | (with_reducible assumption) | (with_reducible refine Below.alloc ?_ ?_ _) | (with_reducible refine Below.drew ?_) | (with_reducible refine below_drewN ?_ _) | (with_reducible refine Below.setCell ?_ ?_ _) | (with_reducible refine Below.trans ?_ (Below.mono (by with_reducible assumption) ?_)) | omega | (simp only [World.size_alloc, World.size_setCell, World.size_drew, size_drewN']; omega) | go_size))).mono ?_); rintro e w1 ⟨rfl, hb1⟩; have hb1z := Below.size hb1; (try simp only [World.size_alloc, World.size_setCell, World.size_drew, size_drewN'] at hb1z); have hb1c0 := fun o => below_at hb1 (w.heap.size) o (by first | omega | (simp only [World.size_alloc, World.size_setCell, World.size_drew, size_drewN']; omega)); have hb1f0 := fun o => below_fr hb1 (w.heap.size) o (by first | omega | (simp only [World.size_alloc, World.size_setCell, World.size_drew, size_drewN']; omega)); have hb1c1 := fun o => below_at hb1 (w.heap.size + 1) o (by first | omega | (simp only [World.size_alloc, World.size_setCell, World.size_drew, size_drewN']; omega)); have hb1f1 := fun o => below_fr hb1 (w.heap.size + 1) o (by first | omega | (simp only [World.size_alloc, World.size_setCell, World.size_drew, size_drewN']; omega)))
    go_wp2
    go_ret2
    exact ⟨retFe_n (by rw [HT.out]; exact H0.out) (by rw [HT.out, HE.out]; rfl), (by have z0 := Below.size hb1; (try simp only [World.size_alloc, World.size_setCell, World.size_drew, size_drewN'] at z0 ⊢; skip); repeat' (first | (with_reducible exact Below.refl _ _) | (with_reducible assumption) | (with_reducible refine Below.alloc ?_ ?_ _) | (with_reducible refine Below.drew ?_) | (with_reducible refine below_drewN ?_ _) | (with_reducible refine Below.setCell ?_ ?_ _) | (with_reducible refine Below.trans ?_ (Below.mono (by with_reducible assumption) ?_)) | omega | (simp only [World.size_alloc, World.size_setCell, World.size_drew, size_drewN']; omega) | go_size))⟩
end Go.Proofs.YtmebdlilbnadgaaGreatDoor
