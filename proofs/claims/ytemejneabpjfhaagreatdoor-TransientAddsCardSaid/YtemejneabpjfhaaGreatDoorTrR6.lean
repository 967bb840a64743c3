/- Contracts of functions and lemmas, used by the proofs of the given statements. No condition beyond those that each lemma names. -/
import Derived.Test.YtemejneabpjfhaaGreatDoorTrR5
namespace Go.Proofs.YtemejneabpjfhaaGreatDoor
open Go.RowKit
set_option linter.unusedSimpArgs false
set_option linter.unusedVariables false
set_option maxRecDepth 20000
attribute [local irreducible] nv wp win plainB validR valR canR mvE chkM codeC exK maxF dsum
/-! ## reference: Step -/
def RetFc (b0 base n : Nat) (x : Nat → Rat) (code : Int) (e : Ending) (w' : World) : Prop := if code = 0 then ∃ A c, e = .returned (.tuple #[.slice A n c, .int .i64 0]) ∧ OwF w' b0 base A c n x else e = .returned (.tuple #[.slice none 0 0, .int .i64 code])
theorem retFc_0 {b0 base n : Nat} {x : Nat → Rat} {code : Int} {A : Option Addr} {c : Nat} {w' : World} (h : code = 0) (hr : OwF w' b0 base A c n x) : RetFc b0 base n x code (.returned (.tuple #[.slice A n c, .int .i64 0])) w' := by
  unfold RetFc; rw [if_pos h]; exact ⟨A, c, rfl, hr⟩
theorem retFc_n {b0 base n : Nat} {x : Nat → Rat} {code z : Int} {w' : World} (h : code ≠ 0) (hz : code = z) : RetFc b0 base n x code (.returned (.tuple #[.slice none 0 0, .int .i64 z])) w' := by
  unfold RetFc; rw [if_neg h, hz]
set_option maxHeartbeats 4000000 in
theorem rStep_any {w : World} {AM AD AV : Option Addr} {cm cd L n ca : Nat} {c : Chn} {v : Value} {r : Rw} {R : Nat → Rw} (h : ChI w w.heap.size AM cm AD cd c) (hs : ChS c L) (hr : RdS w w.heap.size v r) (hr1 : r.2.1.length ≤ 4) (hr2 : r.2.2.length ≤ 4)
    (hv : RowA w w.heap.size AV n R) (hvs : Short n R) (hn : n ≤ 1000000) (hst : c.codeT r n R = 0 → StS c (valR r) (vecQ n R) L) :
    Calls Tryz.prog 28 #[cv c.st c.sr AM c.nm cm AD c.nd cd, v, .slice AV n ca] w fun e w' => RetFc w.heap.size w.heap.size n (c.stepQ false (valR r) (vecQ n R)) (c.codeT r n R) e w' ∧ Below w.heap.size w w' := by
  have K1 := Lib.hid (fun W (hb : Below w.heap.size w W) => rated_any (h.below hb) hs ((hr.kp (Kp.of_below hb)).base hb.size) hr1 hr2)
  have HA := Lib.hid hv
  have HZ := Lib.hid hvs
  have hT : c.codeT r n R = if c.codeR r ≠ 0 then c.codeR r else if n ≠ c.nd then 11 else if allV n R then 0 else 2 := rfl
  have hR0 := Chn.codeR_0 (c := c) (r := r)
  have hok := Chn.ok_iff (c := c)
  obtain ⟨cr, hcr⟩ : ∃ cr, cr = c.codeR r := ⟨_, rfl⟩
  obtain ⟨ct, hct⟩ : ∃ ct, ct = c.codeT r n R := ⟨_, rfl⟩
  obtain ⟨X, hX⟩ : ∃ X, X = c.stepQ false (valR r) (vecQ n R) := ⟨_, rfl⟩
  rw [← hcr] at K1 hT hR0
  rw [← hct] at hT hst ⊢
  rw [← hX]
  obtain ⟨s0, A0, n0, c0, B0, m0, d0, rfl⟩ := hr.form
  by_cases h0 : cr = 0
  · obtain ⟨k1, k2, k3⟩ := hR0 h0
    have ok := hok.1 k1
    rw [if_neg (by omega)] at hT
    rw [h0] at K1
    have hst2 := ok.st
    by_cases h1 : n = c.nd
    · rw [if_neg (by omega)] at hT
      have e5 : ((n : Int) != c.st) = false := by rw [hst2, h1]; simp
      cases ha : allV n R
      · rw [ha, if_neg (by simp)] at hT
        have HAL := Lib.hid ha
        have HT := Lib.hid hT
        clear hT hR0 hok hcr hct hX k1 k2 k3 ok h0 h1 ha h hs hr hv hvs hst hst2
        obtain ⟨st, sr, nm, F, T, R', nd, D⟩ := c
        simp only at *
        go_enter Tryz.func28, Tryz.ntmps28
        (go_wp2_with fail; (with_reducible refine (K1.out _ (by (skip); repeat' (first | (with_reducible exact Below.refl _ _) | (with_reducible assumption) | (with_reducible refine Below.alloc ?_ ?_ _) | (with_reducible refine Below.drew ?_) | (with_reducible refine below_drewN ?_ _) | (with_reducible refine Below.setCell ?_ ?_ _) | (with_reducible refine Below.trans ?_ (Below.mono (by with_reducible assumption) ?_)) | omega | (simp only [World.size_alloc, World.size_setCell, World.size_drew, size_drewN']; omega) | go_size))).mono ?_); rintro e w1 ⟨rfl, hb1⟩; have hb1z := Below.size hb1; (try simp only [World.size_alloc, World.size_setCell, World.size_drew, size_drewN'] at hb1z); have hb1c0 := fun o => below_at hb1 (w.heap.size) o (by first | omega | (simp only [World.size_alloc, World.size_setCell, World.size_drew, size_drewN']; omega)); have hb1f0 := fun o => below_fr hb1 (w.heap.size) o (by first | omega | (simp only [World.size_alloc, World.size_setCell, World.size_drew, size_drewN']; omega)); have hb1c1 := fun o => below_at hb1 (w.heap.size + 1) o (by first | omega | (simp only [World.size_alloc, World.size_setCell, World.size_drew, size_drewN']; omega)); have hb1f1 := fun o => below_fr hb1 (w.heap.size + 1) o (by first | omega | (simp only [World.size_alloc, World.size_setCell, World.size_drew, size_drewN']; omega)))
        have hb1' : Below w.heap.size w w1 := (by have z0 := Below.size hb1; (try simp only [World.size_alloc, World.size_setCell, World.size_drew, size_drewN'] at z0 ⊢; skip); repeat' (first | (with_reducible exact Below.refl _ _) | (with_reducible assumption) | (with_reducible refine Below.alloc ?_ ?_ _) | (with_reducible refine Below.drew ?_) | (with_reducible refine below_drewN ?_ _) | (with_reducible refine Below.setCell ?_ ?_ _) | (with_reducible refine Below.trans ?_ (Below.mono (by with_reducible assumption) ?_)) | omega | (simp only [World.size_alloc, World.size_setCell, World.size_drew, size_drewN']; omega) | go_size))
        have HB1 := Lib.hid hb1'
        have hw1 : w.heap.size + 1 < w1.heap.size := by have := hb1.size; simp at this; omega
        clear hb1'
        clear hb1
        go_wp2
        go_loopw [24] (fun i wr => ∃ k : Nat, k ≤ n ∧ i = .int .i64 (k : Int) ∧ (∀ j, j < k → validR (R j) = true) ∧ Below (w.heap.size + 1 + 1) w1 wr) (fun i _ => n - (intOf i).toNat)
        case atStart => exact ⟨0, Nat.zero_le _, rfl, fun j hj => by omega, Below.refl _ _⟩
        case round =>
          obtain ⟨k, hk, rfl, hv, hb⟩ := hrel
          have HV := Lib.hid hv
          clear hv
          have hbz := hb.size
          have hbw : Below w.heap.size w wr := (HB1.out).trans (hb.mono (by omega))
          by_cases hlt : k < n
          · obtain ⟨b, off, s1, A1, n1, c1, B1, m1, d1, rfl, hbb, f0, f1, f2, r1⟩ := HA.out.at_ hlt
            obtain ⟨z1, z2⟩ := HZ.out k hlt
            have x0 := (hbw.cell (lt_of_cell f0)).trans f0
            have x1 := (hbw.cell (lt_of_cell f1)).trans f1
            have x2 := (hbw.cell (lt_of_cell f2)).trans f2
            have K := Lib.hid (fun W (hb' : Below wr.heap.size wr W) => rvalidS (r1.kp (Kp.of_below (hbw.trans (hb'.mono hbw.size)))) z1 z2)
            have hk0 : (0 : Int) ≤ (k : Int) := by omega
            have hki : (k : Int) < (n : Int) := by omega
            clear f0 f1 f2 r1
            cases hv : validR (R k)
            · rw [hv] at K
              clear hv
              (go_wp2_with fail; (with_reducible refine (K.out _ (by (skip); repeat' (first | (with_reducible exact Below.refl _ _) | (with_reducible assumption) | (with_reducible refine Below.alloc ?_ ?_ _) | (with_reducible refine Below.drew ?_) | (with_reducible refine below_drewN ?_ _) | (with_reducible refine Below.setCell ?_ ?_ _) | (with_reducible refine Below.trans ?_ (Below.mono (by with_reducible assumption) ?_)) | omega | (simp only [World.size_alloc, World.size_setCell, World.size_drew, size_drewN']; omega) | go_size))).mono ?_); rintro e w2 ⟨rfl, hb2⟩; have hb2z := Below.size hb2; (try simp only [World.size_alloc, World.size_setCell, World.size_drew, size_drewN'] at hb2z))
              go_wp2
              go_ret2
              exact ⟨retFc_n (by rw [HT.out]; decide) HT.out, hbw.trans (by have z0 := Below.size hb2; (try simp only [World.size_alloc, World.size_setCell, World.size_drew, size_drewN'] at z0 ⊢; skip); repeat' (first | (with_reducible exact Below.refl _ _) | (with_reducible assumption) | (with_reducible refine Below.alloc ?_ ?_ _) | (with_reducible refine Below.drew ?_) | (with_reducible refine below_drewN ?_ _) | (with_reducible refine Below.setCell ?_ ?_ _) | (with_reducible refine Below.trans ?_ (Below.mono (by with_reducible assumption) ?_)) | omega | (simp only [World.size_alloc, World.size_setCell, World.size_drew, size_drewN']; omega) | go_size))⟩
            · rw [hv] at K
              have HN := Lib.hid hv
              clear hv
              (go_wp2_with fail; (with_reducible refine (K.out _ (by (skip); repeat' (first | (with_reducible exact Below.refl _ _) | (with_reducible assumption) | (with_reducible refine Below.alloc ?_ ?_ _) | (with_reducible refine Below.drew ?_) | (with_reducible refine below_drewN ?_ _) | (with_reducible refine Below.setCell ?_ ?_ _) | (with_reducible refine Below.trans ?_ (Below.mono (by with_reducible assumption) ?_)) | omega | (simp only [World.size_alloc, World.size_setCell, World.size_drew, size_drewN']; omega) | go_size))).mono ?_); rintro e w2 ⟨rfl, hb2⟩; have hb2z := Below.size hb2; (try simp only [World.size_alloc, World.size_setCell, World.size_drew, size_drewN'] at hb2z))
              go_wp2
              go_roundw
              case rel =>
                refine ⟨k + 1, by omega, by go_num, fun j hj => ?_, hb.trans (by have z0 := Below.size hb2; (try simp only [World.size_alloc, World.size_setCell, World.size_drew, size_drewN'] at z0 ⊢; skip); repeat' (first | (with_reducible exact Below.refl _ _) | (with_reducible assumption) | (with_reducible refine Below.alloc ?_ ?_ _) | (with_reducible refine Below.drew ?_) | (with_reducible refine below_drewN ?_ _) | (with_reducible refine Below.setCell ?_ ?_ _) | (with_reducible refine Below.trans ?_ (Below.mono (by with_reducible assumption) ?_)) | omega | (simp only [World.size_alloc, World.size_setCell, World.size_drew, size_drewN']; omega) | go_size))⟩
                by_cases e : j = k
                · rw [e]; exact HN.out
                · exact HV.out j (by omega)
              case measure => simp [intOf]; omega
          · have hkn : k = n := by omega
            exact absurd (allV_yes (n := n) (R := R) fun j hj => HV.out j (by omega)) (by rw [HAL.out]; simp)
      · rw [ha, if_pos rfl] at hT
        have hv2 := hv.can_ ha
        have HAL := Lib.hid ha
        have hrc : RdS w w.heap.size (rv s0 A0 n0 c0 B0 m0 d0) (canR (valR r)) := by rw [valR_pos_can hr.ok k2]; exact hr
        rw [h1] at hv2 hX hst
        have K3 := Lib.hid (fun W (hb : Below w.heap.size w W) => rstep_any (ca := ca) (h.below hb) ok ((hrc.kp (Kp.of_below hb)).base hb.size) (fun e => by rw [e] at k2; exact absurd k2 (by decide)) (hv2.below hb) hb.size (hst hT))
        rw [← h1] at K3
        have K3' : Hid (∀ W, Below w.heap.size w W → Calls Tryz.prog 41 #[cv c.st c.sr AM c.nm cm AD n cd, rv s0 A0 n0 c0 B0 m0 d0, .slice AV n ca] W fun e w' => (∃ A' c', e = .returned (.slice A' n c') ∧ OwF w' w.heap.size W.heap.size A' c' n X) ∧ Below W.heap.size W w') := by rw [hX, ← h1]; exact K3
        have HT := Lib.hid hT
        clear hT hR0 hok hcr hct hX k1 k2 k3 ok h0 ha h hs hr hv hvs hst hst2 hv2 hrc K3
        obtain ⟨st, sr, nm, F, T, R', nd, D⟩ := c
        simp only at *
        subst h1
        go_enter Tryz.func28, Tryz.ntmps28
        (go_wp2_with fail; (with_reducible refine (K1.out _ (by (skip); repeat' (first | (with_reducible exact Below.refl _ _) | (with_reducible assumption) | (with_reducible refine Below.alloc ?_ ?_ _) | (with_reducible refine Below.drew ?_) | (with_reducible refine below_drewN ?_ _) | (with_reducible refine Below.setCell ?_ ?_ _) | (with_reducible refine Below.trans ?_ (Below.mono (by with_reducible assumption) ?_)) | omega | (simp only [World.size_alloc, World.size_setCell, World.size_drew, size_drewN']; omega) | go_size))).mono ?_); rintro e w1 ⟨rfl, hb1⟩; have hb1z := Below.size hb1; (try simp only [World.size_alloc, World.size_setCell, World.size_drew, size_drewN'] at hb1z); have hb1c0 := fun o => below_at hb1 (w.heap.size) o (by first | omega | (simp only [World.size_alloc, World.size_setCell, World.size_drew, size_drewN']; omega)); have hb1f0 := fun o => below_fr hb1 (w.heap.size) o (by first | omega | (simp only [World.size_alloc, World.size_setCell, World.size_drew, size_drewN']; omega)); have hb1c1 := fun o => below_at hb1 (w.heap.size + 1) o (by first | omega | (simp only [World.size_alloc, World.size_setCell, World.size_drew, size_drewN']; omega)); have hb1f1 := fun o => below_fr hb1 (w.heap.size + 1) o (by first | omega | (simp only [World.size_alloc, World.size_setCell, World.size_drew, size_drewN']; omega)))
        have hb1' : Below w.heap.size w w1 := (by have z0 := Below.size hb1; (try simp only [World.size_alloc, World.size_setCell, World.size_drew, size_drewN'] at z0 ⊢; skip); repeat' (first | (with_reducible exact Below.refl _ _) | (with_reducible assumption) | (with_reducible refine Below.alloc ?_ ?_ _) | (with_reducible refine Below.drew ?_) | (with_reducible refine below_drewN ?_ _) | (with_reducible refine Below.setCell ?_ ?_ _) | (with_reducible refine Below.trans ?_ (Below.mono (by with_reducible assumption) ?_)) | omega | (simp only [World.size_alloc, World.size_setCell, World.size_drew, size_drewN']; omega) | go_size))
        have HB1 := Lib.hid hb1'
        have hw1 : w.heap.size + 1 < w1.heap.size := by have := hb1.size; simp at this; omega
        clear hb1'
        have y5 : w1.cell? ⟨w.heap.size, 0, none⟩ = some (.int .i64 st) := by rw [hb1c0]; simp
        have y6 : w1.cell? ⟨w.heap.size, 1, none⟩ = some (.int .i64 sr) := by rw [hb1c0]; simp
        have y7 : w1.cell? ⟨w.heap.size, 2, none⟩ = some (.slice AM nm cm) := by rw [hb1c0]; simp
        have y8 : w1.cell? ⟨w.heap.size, 3, none⟩ = some (.slice AD n cd) := by rw [hb1c0]; simp
        have y9 : w1.cell? ⟨w.heap.size + 1, 0, none⟩ = some (.bool s0) := by rw [hb1c1]; simp
        have y10 : w1.cell? ⟨w.heap.size + 1, 1, none⟩ = some (.slice A0 n0 c0) := by rw [hb1c1]; simp
        have y11 : w1.cell? ⟨w.heap.size + 1, 2, none⟩ = some (.slice B0 m0 d0) := by rw [hb1c1]; simp
        clear hb1 hb1c0 hb1c1 hb1f0 hb1f1
        go_wp2
        go_loopw [24] (fun i wr => ∃ k : Nat, k ≤ n ∧ i = .int .i64 (k : Int) ∧ (∀ j, j < k → validR (R j) = true) ∧ Below (w.heap.size + 1 + 1) w1 wr) (fun i _ => n - (intOf i).toNat)
        case atStart => exact ⟨0, Nat.zero_le _, rfl, fun j hj => by omega, Below.refl _ _⟩
        case round =>
          obtain ⟨k, hk, rfl, hv, hb⟩ := hrel
          have HV := Lib.hid hv
          clear hv
          have hbz := hb.size
          have hbw : Below w.heap.size w wr := (HB1.out).trans (hb.mono (by omega))
          by_cases hlt : k < n
          · obtain ⟨b, off, s1, A1, n1, c1, B1, m1, d1, rfl, hbb, f0, f1, f2, r1⟩ := HA.out.at_ hlt
            obtain ⟨z1, z2⟩ := HZ.out k hlt
            have x0 := (hbw.cell (lt_of_cell f0)).trans f0
            have x1 := (hbw.cell (lt_of_cell f1)).trans f1
            have x2 := (hbw.cell (lt_of_cell f2)).trans f2
            have K := Lib.hid (fun W (hb' : Below wr.heap.size wr W) => rvalidS (r1.kp (Kp.of_below (hbw.trans (hb'.mono hbw.size)))) z1 z2)
            have hk0 : (0 : Int) ≤ (k : Int) := by omega
            have hki : (k : Int) < (n : Int) := by omega
            clear f0 f1 f2 r1
            cases hv : validR (R k)
            · rw [hv] at K
              exact absurd hv (by rw [allV_at HAL.out hlt]; simp)
            · rw [hv] at K
              have HN := Lib.hid hv
              clear hv
              (go_wp2_with fail; (with_reducible refine (K.out _ (by (skip); repeat' (first | (with_reducible exact Below.refl _ _) | (with_reducible assumption) | (with_reducible refine Below.alloc ?_ ?_ _) | (with_reducible refine Below.drew ?_) | (with_reducible refine below_drewN ?_ _) | (with_reducible refine Below.setCell ?_ ?_ _) | (with_reducible refine Below.trans ?_ (Below.mono (by with_reducible assumption) ?_)) | omega | (simp only [World.size_alloc, World.size_setCell, World.size_drew, size_drewN']; omega) | go_size))).mono ?_); rintro e w2 ⟨rfl, hb2⟩; have hb2z := Below.size hb2; (try simp only [World.size_alloc, World.size_setCell, World.size_drew, size_drewN'] at hb2z))
              go_wp2
              go_roundw
              case rel =>
                refine ⟨k + 1, by omega, by go_num, fun j hj => ?_, hb.trans (by have z0 := Below.size hb2; (try simp only [World.size_alloc, World.size_setCell, World.size_drew, size_drewN'] at z0 ⊢; skip); repeat' (first | (with_reducible exact Below.refl _ _) | (with_reducible assumption) | (with_reducible refine Below.alloc ?_ ?_ _) | (with_reducible refine Below.drew ?_) | (with_reducible refine below_drewN ?_ _) | (with_reducible refine Below.setCell ?_ ?_ _) | (with_reducible refine Below.trans ?_ (Below.mono (by with_reducible assumption) ?_)) | omega | (simp only [World.size_alloc, World.size_setCell, World.size_drew, size_drewN']; omega) | go_size))⟩
                by_cases e : j = k
                · rw [e]; exact HN.out
                · exact HV.out j (by omega)
              case measure => simp [intOf]; omega
          · have hkn : k = n := by omega
            have x5 := (hb.cell (p := ⟨w.heap.size, 0, none⟩) (by show w.heap.size < _; omega)).trans y5
            have x6 := (hb.cell (p := ⟨w.heap.size, 1, none⟩) (by show w.heap.size < _; omega)).trans y6
            have x7 := (hb.cell (p := ⟨w.heap.size, 2, none⟩) (by show w.heap.size < _; omega)).trans y7
            have x8 := (hb.cell (p := ⟨w.heap.size, 3, none⟩) (by show w.heap.size < _; omega)).trans y8
            have x9 := (hb.cell (p := ⟨w.heap.size + 1, 0, none⟩) (by show w.heap.size + 1 < _; omega)).trans y9
            have x10 := (hb.cell (p := ⟨w.heap.size + 1, 1, none⟩) (by show w.heap.size + 1 < _; omega)).trans y10
            have x11 := (hb.cell (p := ⟨w.heap.size + 1, 2, none⟩) (by show w.heap.size + 1 < _; omega)).trans y11
            have hwz := hbw.size
            (go_wp2_with fail; (with_reducible refine (K3'.out _ hbw).mono ?_); rintro e w3 ⟨⟨A9, c9, rfl, own9⟩, hb3⟩; have hb3z := Below.size hb3; (try simp only [World.size_alloc, World.size_setCell, World.size_drew, size_drewN'] at hb3z))
            have HO9 := Lib.hid own9
            have HBW := Lib.hid hbw
            clear own9 hbw
            go_wp2
            go_ret2
            exact ⟨retFc_0 HT.out (OwF.base_ HO9.out hwz), HBW.out.trans (hb3.mono hwz)⟩
    · rw [if_pos h1] at hT
      have e5 : ((n : Int) != c.st) = true := by rw [hst2, bne_iff_ne]; omega
      have e6 : ((n : Int) == c.st) = false := by rw [hst2]; exact beq_eq_false_iff_ne.2 (by omega)
      have HT := Lib.hid hT
      clear hT hR0 hok hcr hct hX k1 k2 k3 ok h0 h1 h hs hr hv hvs hst hst2
      obtain ⟨st, sr, nm, F, T, R', nd, D⟩ := c
      simp only at *
      go_enter Tryz.func28, Tryz.ntmps28
      (go_wp2_with fail; (with_reducible refine (K1.out _ (by (skip); repeat' (first | (with_reducible exact Below.refl _ _) | (with_reducible assumption) | (with_reducible refine Below.alloc ?_ ?_ _) | (with_reducible refine Below.drew ?_) | (with_reducible refine below_drewN ?_ _) | (with_reducible refine Below.setCell ?_ ?_ _) | (with_reducible refine Below.trans ?_ (Below.mono (by with_reducible assumption) ?_)) | omega | (simp only [World.size_alloc, World.size_setCell, World.size_drew, size_drewN']; omega) | go_size))).mono ?_); rintro e w1 ⟨rfl, hb1⟩; have hb1z := Below.size hb1; (try simp only [World.size_alloc, World.size_setCell, World.size_drew, size_drewN'] at hb1z); have hb1c0 := fun o => below_at hb1 (w.heap.size) o (by first | omega | (simp only [World.size_alloc, World.size_setCell, World.size_drew, size_drewN']; omega)); have hb1f0 := fun o => below_fr hb1 (w.heap.size) o (by first | omega | (simp only [World.size_alloc, World.size_setCell, World.size_drew, size_drewN']; omega)); have hb1c1 := fun o => below_at hb1 (w.heap.size + 1) o (by first | omega | (simp only [World.size_alloc, World.size_setCell, World.size_drew, size_drewN']; omega)); have hb1f1 := fun o => below_fr hb1 (w.heap.size + 1) o (by first | omega | (simp only [World.size_alloc, World.size_setCell, World.size_drew, size_drewN']; omega)))
      go_wp2
      go_ret2
      exact ⟨retFc_n (by rw [HT.out]; decide) HT.out, (by have z0 := Below.size hb1; (try simp only [World.size_alloc, World.size_setCell, World.size_drew, size_drewN'] at z0 ⊢; skip); repeat' (first | (with_reducible exact Below.refl _ _) | (with_reducible assumption) | (with_reducible refine Below.alloc ?_ ?_ _) | (with_reducible refine Below.drew ?_) | (with_reducible refine below_drewN ?_ _) | (with_reducible refine Below.setCell ?_ ?_ _) | (with_reducible refine Below.trans ?_ (Below.mono (by with_reducible assumption) ?_)) | omega | (simp only [World.size_alloc, World.size_setCell, World.size_drew, size_drewN']; omega) | go_size))⟩
  · rw [if_pos h0] at hT
    have HT := Lib.hid hT
    have H0 := Lib.hid h0
    have e5 : (cr != 0) = true := by simpa using h0
    have e6 : (cr == 0) = false := by simpa using h0
    clear hT hR0 hok hcr hct hX h0 h hs hr hv hvs hst
    obtain ⟨st, sr, nm, F, T, R', nd, D⟩ := c
    simp only at *
    go_enter Tryz.func28, Tryz.ntmps28
    (go_wp2_with fail; (with_reducible refine (K1.out _ (by (skip); repeat' (first | (with_reducible exact Below.refl _ _) | (with_reducible assumption) | (with_reducible refine Below.alloc ?_ ?_ _) | (with_reducible refine Below.drew ?_) | (with_reducible refine below_drewN ?_ _) | (with_reducible refine Below.setCell ?_ ?_ _) | (with_reducible refine Below.trans ?_ (Below.mono (by with_reducible assumption) ?_)) | omega | (simp only [World.size_alloc, World.size_setCell, World.size_drew, size_drewN']; omega) | go_size))).mono ?_); rintro e w1 ⟨rfl, hb1⟩; have hb1z := Below.size hb1; (try simp only [World.size_alloc, World.size_setCell, World.size_drew, size_drewN'] at hb1z); have hb1c0 := fun o => below_at hb1 (w.heap.size) o (by first | omega | (simp only [World.size_alloc, World.size_setCell, World.size_drew, size_drewN']; omega)); have hb1f0 := fun o => below_fr hb1 (w.heap.size) o (by first | omega | (simp only [World.size_alloc, World.size_setCell, World.size_drew, size_drewN']; omega)); have hb1c1 := fun o => below_at hb1 (w.heap.size + 1) o (by first | omega | (simp only [World.size_alloc, World.size_setCell, World.size_drew, size_drewN']; omega)); have hb1f1 := fun o => below_fr hb1 (w.heap.size + 1) o (by first | omega | (simp only [World.size_alloc, World.size_setCell, World.size_drew, size_drewN']; omega)))
    go_wp2
    go_ret2
    exact ⟨retFc_n (by rw [HT.out]; exact H0.out) HT.out, (by have z0 := Below.size hb1; (try simp only [World.size_alloc, World.size_setCell, World.size_drew, size_drewN'] at z0 ⊢; skip); repeat' (first | (with_reducible exact Below.refl _ _) | (with_reducible assumption) | (with_reducible refine Below.alloc ?_ ?_ _) | (with_reducible refine Below.drew ?_) | (with_reducible refine below_drewN ?_ _) | (with_reducible refine Below.setCell ?_ ?_ _) | (with_reducible refine Below.trans ?_ (Below.mono (by with_reducible assumption) ?_)) | omega | (simp only [World.size_alloc, World.size_setCell, World.size_drew, size_drewN']; omega) | go_size))⟩
end Go.Proofs.YtemejneabpjfhaaGreatDoor
