/- Contracts of functions and lemmas, used by the proofs of the given statements. No condition beyond those that each lemma names. -/
import Derived.Test.YtlncafhgmbhocaaGreatDoorJBase
import Derived.Test.YtlncafhgmbhocaaGreatDoorChX
import Derived.Test.YtlncafhgmbhocaaGreatDoorJTrW6
namespace Go.Proofs.YtlncafhgmbhocaaGreatDoor
open Go.RowKit
set_option linter.unusedSimpArgs false
set_option linter.unusedVariables false
set_option maxRecDepth 20000
attribute [local irreducible] nv wp win plainB validR valR canR
/-! ## reference: Min, Max -/
set_option maxHeartbeats 2000000 in
theorem rminQ {w : World} {L : Nat} {v u : Value} {q r : Rat} (h : RdQ w L v q) (h' : RdQ w L u r) (hL : 1 ≤ L) (hL2 : L ≤ 1000000) :
    Calls Tryz.prog 133 #[v, u] w fun e w' => RetQ w.heap.size (if r < q then r else q) e w' ∧ Below w.heap.size w w' := by
  have K1 := Lib.hid (fun W z (hb : Below w.heap.size w W) (hz : sgnQ (q - r) = z) => (by
    have := rcmpQ (h.below hb) (h'.below hb) hL (by omega)
    rw [hz] at this
    exact this : Calls Tryz.prog 71 #[v, u] W fun e w' => e = .returned (.int .i64 z) ∧ Below W.heap.size W w'))
  have K2 := Lib.hid (fun W (hb : Below w.heap.size w W) => raddQ (h.below hb) ((OwQ.zero W 0).rq (Sz.zero hL)) hL (by omega))
  have K3 := Lib.hid (fun W (hb : Below w.heap.size w W) => raddQ (h'.below hb) ((OwQ.zero W 0).rq (Sz.zero hL)) hL (by omega))
  obtain ⟨s0, A0, n0, c0, B0, m0, d0, rfl⟩ := h.form
  obtain ⟨s9, A9, n9, c9, B9, m9, d9, rfl⟩ := h'.form
  clear h h'
  by_cases hlt : r < q
  · rw [if_pos hlt]
    have K1' := Lib.hid (fun W hb => K1.out W 1 hb (sgn_pos (by grind)))
    clear hlt K1
    go_enter Tryz.func133, Tryz.ntmps133
    (go_wp2_with fail; (with_reducible refine (K1'.out _ (by (skip); repeat' (first | (with_reducible exact Below.refl _ _) | (with_reducible assumption) | (with_reducible refine Below.alloc ?_ ?_ _) | (with_reducible refine Below.drew ?_) | (with_reducible refine below_drewN ?_ _) | (with_reducible refine Below.setCell ?_ ?_ _) | (with_reducible refine Below.trans ?_ (Below.mono (by with_reducible assumption) ?_)) | omega | (simp only [ZA, ZS, ZD, ZN]; omega) | go_size))).mono ?_); rintro e w1 ⟨rfl, hb1⟩; have hb1z := Below.size hb1; (try simp only [ZA, ZS, ZD, ZN] at hb1z); have hb1c0 := fun o => below_at hb1 (w.heap.size) o (by first | omega | (simp only [ZA, ZS, ZD, ZN]; omega)); have hb1f0 := fun o => below_fr hb1 (w.heap.size) o (by first | omega | (simp only [ZA, ZS, ZD, ZN]; omega)); have hb1c1 := fun o => below_at hb1 (w.heap.size + 1) o (by first | omega | (simp only [ZA, ZS, ZD, ZN]; omega)); have hb1f1 := fun o => below_fr hb1 (w.heap.size + 1) o (by first | omega | (simp only [ZA, ZS, ZD, ZN]; omega)); have hb1c2 := fun o => below_at hb1 (w.heap.size + 2) o (by first | omega | (simp only [ZA, ZS, ZD, ZN]; omega)); have hb1f2 := fun o => below_fr hb1 (w.heap.size + 2) o (by first | omega | (simp only [ZA, ZS, ZD, ZN]; omega)))
    have hw1 : w.heap.size + 2 < w1.heap.size := by have := hb1.size; simp at this; omega
    have hbw : Below w.heap.size w (((w1.setCell ⟨w.heap.size, 0, none⟩ (.bool s9)).setCell ⟨w.heap.size, 1, none⟩ (.slice A9 n9 c9)).setCell ⟨w.heap.size, 2, none⟩ (.slice B9 m9 d9)) := ((((by have z0 := Below.size hb1; (try simp only [ZA, ZS, ZD, ZN] at z0 ⊢; skip); repeat' (first | (with_reducible exact Below.refl _ _) | (with_reducible assumption) | (with_reducible refine Below.alloc ?_ ?_ _) | (with_reducible refine Below.drew ?_) | (with_reducible refine below_drewN ?_ _) | (with_reducible refine Below.setCell ?_ ?_ _) | (with_reducible refine Below.trans ?_ (Below.mono (by with_reducible assumption) ?_)) | omega | (simp only [ZA, ZS, ZD, ZN]; omega) | go_size)) : Below w.heap.size w w1).setCell (Nat.le_refl _) _).setCell (Nat.le_refl _) _).setCell (Nat.le_refl _) _
    have KA := Lib.hid (K3.out _ hbw)
    obtain ⟨f0, f1, f2⟩ := set3 (w := w1) (g := w.heap.size) (o := 0) (a := .bool s9) (b := .slice A9 n9 c9) (d := .slice B9 m9 d9) (a' := .bool s0) (b' := .slice A0 n0 c0) (d' := .slice B0 m0 d0) (by rw [hb1c0]; exact Lib.cell?_alloc_some _ (Lib.cell?_alloc_some _ (by simp))) (by rw [hb1c0]; exact Lib.cell?_alloc_some _ (Lib.cell?_alloc_some _ (by simp))) (by rw [hb1c0]; exact Lib.cell?_alloc_some _ (Lib.cell?_alloc_some _ (by simp)))
    (go_wp2_with fail; (with_reducible refine (KA.out).mono ?_); rintro e w2 ⟨⟨v2, rfl, own2⟩, hb2⟩; have hb2z := Below.size hb2; (try simp only [ZA, ZS, ZD, ZN] at hb2z); have hb2c0 := fun o => below_at hb2 (w.heap.size) o (by first | omega | (simp only [ZA, ZS, ZD, ZN]; omega)); have hb2f0 := fun o => below_fr hb2 (w.heap.size) o (by first | omega | (simp only [ZA, ZS, ZD, ZN]; omega)); have hb2c1 := fun o => below_at hb2 (w.heap.size + 1) o (by first | omega | (simp only [ZA, ZS, ZD, ZN]; omega)); have hb2f1 := fun o => below_fr hb2 (w.heap.size + 1) o (by first | omega | (simp only [ZA, ZS, ZD, ZN]; omega)); have hb2c2 := fun o => below_at hb2 (w.heap.size + 2) o (by first | omega | (simp only [ZA, ZS, ZD, ZN]; omega)); have hb2f2 := fun o => below_fr hb2 (w.heap.size + 2) o (by first | omega | (simp only [ZA, ZS, ZD, ZN]; omega)))
    obtain ⟨s2, A2, n2, c2, B2, m2, d2, rfl⟩ := own2.form
    go_wp2
    refine bodyPost_ret (v := rv s2 A2 n2 c2 B2 m2 d2) (by simp [results, Tryz.results133, go_sem, hb2c2, hb1c2]) rfl ?_
    rw [Rat.add_zero] at own2
    exact ⟨⟨_, rfl, own2.set3 (by simp; omega) (by simp; omega) _ _ _⟩, (((hbw.trans (hb2.mono (by simp; omega))).setCell (by show _ ≤ w.heap.size + 1 + 1; omega) _).setCell (by show _ ≤ w.heap.size + 1 + 1; omega) _).setCell (by show _ ≤ w.heap.size + 1 + 1; omega) _⟩
  · rw [if_neg hlt]
    have hz9 : ∃ z : Int, z ≤ 0 ∧ sgnQ (q - r) = z := by
      rcases sgn_le (q := q - r) (by grind) with e | e
      · exact ⟨0, by omega, e⟩
      · exact ⟨-1, by omega, e⟩
    obtain ⟨z, hz0, hz1⟩ := hz9
    have K1' := Lib.hid (fun W hb => K1.out W z hb hz1)
    have e5 : decide (0 < z) = false := by simp; omega
    clear hlt K1 hz1
    go_enter Tryz.func133, Tryz.ntmps133
    (go_wp2_with fail; (with_reducible refine (K1'.out _ (by (skip); repeat' (first | (with_reducible exact Below.refl _ _) | (with_reducible assumption) | (with_reducible refine Below.alloc ?_ ?_ _) | (with_reducible refine Below.drew ?_) | (with_reducible refine below_drewN ?_ _) | (with_reducible refine Below.setCell ?_ ?_ _) | (with_reducible refine Below.trans ?_ (Below.mono (by with_reducible assumption) ?_)) | omega | (simp only [ZA, ZS, ZD, ZN]; omega) | go_size))).mono ?_); rintro e w1 ⟨rfl, hb1⟩; have hb1z := Below.size hb1; (try simp only [ZA, ZS, ZD, ZN] at hb1z); have hb1c0 := fun o => below_at hb1 (w.heap.size) o (by first | omega | (simp only [ZA, ZS, ZD, ZN]; omega)); have hb1f0 := fun o => below_fr hb1 (w.heap.size) o (by first | omega | (simp only [ZA, ZS, ZD, ZN]; omega)); have hb1c1 := fun o => below_at hb1 (w.heap.size + 1) o (by first | omega | (simp only [ZA, ZS, ZD, ZN]; omega)); have hb1f1 := fun o => below_fr hb1 (w.heap.size + 1) o (by first | omega | (simp only [ZA, ZS, ZD, ZN]; omega)); have hb1c2 := fun o => below_at hb1 (w.heap.size + 2) o (by first | omega | (simp only [ZA, ZS, ZD, ZN]; omega)); have hb1f2 := fun o => below_fr hb1 (w.heap.size + 2) o (by first | omega | (simp only [ZA, ZS, ZD, ZN]; omega)))
    (go_wp2_with fail; (with_reducible refine (K2.out _ (by have z0 := Below.size hb1; (try simp only [ZA, ZS, ZD, ZN] at z0 ⊢; skip); repeat' (first | (with_reducible exact Below.refl _ _) | (with_reducible assumption) | (with_reducible refine Below.alloc ?_ ?_ _) | (with_reducible refine Below.drew ?_) | (with_reducible refine below_drewN ?_ _) | (with_reducible refine Below.setCell ?_ ?_ _) | (with_reducible refine Below.trans ?_ (Below.mono (by with_reducible assumption) ?_)) | omega | (simp only [ZA, ZS, ZD, ZN]; omega) | go_size))).mono ?_); rintro e w2 ⟨⟨v2, rfl, own2⟩, hb2⟩; have hb2z := Below.size hb2; (try simp only [ZA, ZS, ZD, ZN] at hb2z); have hb2c0 := fun o => below_at hb2 (w.heap.size) o (by first | omega | (simp only [ZA, ZS, ZD, ZN]; omega)); have hb2f0 := fun o => below_fr hb2 (w.heap.size) o (by first | omega | (simp only [ZA, ZS, ZD, ZN]; omega)); have hb2c1 := fun o => below_at hb2 (w.heap.size + 1) o (by first | omega | (simp only [ZA, ZS, ZD, ZN]; omega)); have hb2f1 := fun o => below_fr hb2 (w.heap.size + 1) o (by first | omega | (simp only [ZA, ZS, ZD, ZN]; omega)); have hb2c2 := fun o => below_at hb2 (w.heap.size + 2) o (by first | omega | (simp only [ZA, ZS, ZD, ZN]; omega)); have hb2f2 := fun o => below_fr hb2 (w.heap.size + 2) o (by first | omega | (simp only [ZA, ZS, ZD, ZN]; omega)))
    obtain ⟨s2, A2, n2, c2, B2, m2, d2, rfl⟩ := own2.form
    go_wp2
    refine bodyPost_ret (v := rv s2 A2 n2 c2 B2 m2 d2) (by simp [results, Tryz.results133, go_sem, hb2c2, hb1c2]) rfl ?_
    rw [Rat.add_zero] at own2
    exact ⟨⟨_, rfl, own2.set3 (by omega) (by omega) _ _ _⟩, (by have z0 := Below.size hb1; have z1 := Below.size hb2; (try simp only [ZA, ZS, ZD, ZN] at z0 z1 ⊢; skip); repeat' (first | (with_reducible exact Below.refl _ _) | (with_reducible assumption) | (with_reducible refine Below.alloc ?_ ?_ _) | (with_reducible refine Below.drew ?_) | (with_reducible refine below_drewN ?_ _) | (with_reducible refine Below.setCell ?_ ?_ _) | (with_reducible refine Below.trans ?_ (Below.mono (by with_reducible assumption) ?_)) | omega | (simp only [ZA, ZS, ZD, ZN]; omega) | go_size))⟩
def maxQ (q r : Rat) : Rat := if q < r then r else q
theorem maxQ_neg {q r : Rat} : -(if -r < -q then -r else -q) = maxQ q r := by
  unfold maxQ
  by_cases h : q < r
  · rw [if_pos h, if_pos (by grind)]; grind
  · rw [if_neg h, if_neg (by grind)]; grind
set_option maxHeartbeats 2000000 in
theorem rmaxQ {w : World} {L : Nat} {v u : Value} {q r : Rat} (h : RdQ w L v q) (h' : RdQ w L u r) (hL : 1 ≤ L) (hL2 : L ≤ 1000000) :
    Calls Tryz.prog 96 #[v, u] w fun e w' => RetQ w.heap.size (maxQ q r) e w' ∧ Below w.heap.size w w' := by
  have hq := (h.sz hL).neg
  have hr := (h'.sz hL).neg
  have hm : Sz L (if -r < -q then -r else -q) := by split; exact hr; exact hq
  have K1 := Lib.hid (fun W (hb : Below w.heap.size w W) => rneg_any (h.below hb) hL (by omega))
  have K2 := Lib.hid (fun W (hb : Below w.heap.size w W) => rneg_any (h'.below hb) hL (by omega))
  have K3 := Lib.hid (fun W b1 v1 b2 v2 (h1 : OwQ W b1 v1 (-q)) (h2 : OwQ W b2 v2 (-r)) => rminQ (h1.rq hq) (h2.rq hr) hL hL2)
  have K4 : Hid (∀ W b1 v1, OwQ W b1 v1 (if -r < -q then -r else -q) → Calls Tryz.prog 132 #[v1] W fun e w' => RetQ W.heap.size (maxQ q r) e w' ∧ Below W.heap.size W w') := by
    show ∀ _, _
    intro W b1 v1 h1
    have := rneg_any (h1.rq hm) hL (by omega)
    rw [maxQ_neg] at this
    exact this
  obtain ⟨x, hx⟩ : ∃ x, x = (if -r < -q then -r else -q) := ⟨_, rfl⟩
  obtain ⟨y, hy⟩ : ∃ y, y = maxQ q r := ⟨_, rfl⟩
  rw [← hx, ← hy] at K4
  rw [← hx] at K3
  rw [← hy]
  obtain ⟨s0, A0, n0, c0, B0, m0, d0, rfl⟩ := h.form
  obtain ⟨s9, A9, n9, c9, B9, m9, d9, rfl⟩ := h'.form
  clear h h' hm hq hr hx hy
  have ne1 : ¬ (w.heap.size + 1 + 1 = w.heap.size) := by omega
  have ne2 : ¬ (w.heap.size = w.heap.size + 1 + 1) := by omega
  go_enter Tryz.func96, Tryz.ntmps96
  go_wp2
  go_region_held3 (fun W => W.cell? ⟨w.heap.size, 0, none⟩ = some (.bool s0) ∧ W.cell? ⟨w.heap.size, 1, none⟩ = some (.slice A0 n0 c0) ∧ W.cell? ⟨w.heap.size, 2, none⟩ = some (.slice B0 m0 d0) ∧ W.cell? ⟨w.heap.size + 1, 0, none⟩ = some (.bool s9) ∧ W.cell? ⟨w.heap.size + 1, 1, none⟩ = some (.slice A9 n9 c9) ∧ W.cell? ⟨w.heap.size + 1, 2, none⟩ = some (.slice B9 m9 d9)) (go_keep)
    (first | ((go_at_call 132; (with_reducible refine (K1.out _ (by (skip); repeat' (first | (with_reducible exact Below.refl _ _) | (with_reducible assumption) | (with_reducible refine Below.alloc ?_ ?_ _) | (with_reducible refine Below.drew ?_) | (with_reducible refine below_drewN ?_ _) | (with_reducible refine Below.setCell ?_ ?_ _) | (with_reducible refine Below.trans ?_ (Below.mono (by with_reducible assumption) ?_)) | omega | (simp only [ZA, ZS, ZD, ZN]; omega) | go_size))).mono ?_); rintro e w1 ⟨⟨v1, rfl, own1⟩, hb1⟩; have hb1z := Below.size hb1; (try simp only [ZA, ZS, ZD] at hb1z); have hb1c0 := fun o => below_at hb1 (w.heap.size) o (by first | omega | (simp only [ZA, ZS, ZD]; omega)); have hb1f0 := fun o => below_fr hb1 (w.heap.size) o (by first | omega | (simp only [ZA, ZS, ZD]; omega)); have hb1l0 : w.heap.size < (w1).heap.size := (by omega); have hb1c1 := fun o => below_at hb1 (w.heap.size + 1) o (by first | omega | (simp only [ZA, ZS, ZD]; omega)); have hb1f1 := fun o => below_fr hb1 (w.heap.size + 1) o (by first | omega | (simp only [ZA, ZS, ZD]; omega)); have hb1l1 : w.heap.size + 1 < (w1).heap.size := (by omega); have hb1c2 := fun o => below_at hb1 (w.heap.size + 2) o (by first | omega | (simp only [ZA, ZS, ZD]; omega)); have hb1f2 := fun o => below_fr hb1 (w.heap.size + 2) o (by first | omega | (simp only [ZA, ZS, ZD]; omega)); have hb1l2 : w.heap.size + 2 < (w1).heap.size := (by omega)); obtain ⟨s1, A1, n1, c1, B1, m1, d1, rfl⟩ := own1.form) | ((go_at_call 132; (with_reducible refine (K2.out _ (by have z0 := Below.size hb1; (try simp only [ZA, ZS, ZD, ZN] at z0 ⊢; skip); repeat' (first | (with_reducible exact Below.refl _ _) | (with_reducible assumption) | (with_reducible refine Below.alloc ?_ ?_ _) | (with_reducible refine Below.drew ?_) | (with_reducible refine below_drewN ?_ _) | (with_reducible refine Below.setCell ?_ ?_ _) | (with_reducible refine Below.trans ?_ (Below.mono (by with_reducible assumption) ?_)) | omega | (simp only [ZA, ZS, ZD, ZN]; omega) | go_size))).mono ?_); rintro e w2 ⟨⟨v2, rfl, own2⟩, hb2⟩; have hb2z := Below.size hb2; (try simp only [ZA, ZS, ZD] at hb2z); have hb2c0 := fun o => below_at hb2 (w.heap.size) o (by first | omega | (simp only [ZA, ZS, ZD]; omega)); have hb2f0 := fun o => below_fr hb2 (w.heap.size) o (by first | omega | (simp only [ZA, ZS, ZD]; omega)); have hb2l0 : w.heap.size < (w2).heap.size := (by omega); have hb2c1 := fun o => below_at hb2 (w.heap.size + 1) o (by first | omega | (simp only [ZA, ZS, ZD]; omega)); have hb2f1 := fun o => below_fr hb2 (w.heap.size + 1) o (by first | omega | (simp only [ZA, ZS, ZD]; omega)); have hb2l1 : w.heap.size + 1 < (w2).heap.size := (by omega); have hb2c2 := fun o => below_at hb2 (w.heap.size + 2) o (by first | omega | (simp only [ZA, ZS, ZD]; omega)); have hb2f2 := fun o => below_fr hb2 (w.heap.size + 2) o (by first | omega | (simp only [ZA, ZS, ZD]; omega)); have hb2l2 : w.heap.size + 2 < (w2).heap.size := (by omega)); obtain ⟨s2, A2, n2, c2, B2, m2, d2, rfl⟩ := own2.form) | ((go_at_call 133; (with_reducible refine (K3.out _ _ _ _ _ (own1.below hb2) own2).mono ?_); rintro e w3 ⟨⟨v3, rfl, own3⟩, hb3⟩; have hb3z := Below.size hb3; (try simp only [ZA, ZS, ZD] at hb3z); have hb3c0 := fun o => below_at hb3 (w.heap.size) o (by first | omega | (simp only [ZA, ZS, ZD]; omega)); have hb3f0 := fun o => below_fr hb3 (w.heap.size) o (by first | omega | (simp only [ZA, ZS, ZD]; omega)); have hb3l0 : w.heap.size < (w3).heap.size := (by omega); have hb3c1 := fun o => below_at hb3 (w.heap.size + 1) o (by first | omega | (simp only [ZA, ZS, ZD]; omega)); have hb3f1 := fun o => below_fr hb3 (w.heap.size + 1) o (by first | omega | (simp only [ZA, ZS, ZD]; omega)); have hb3l1 : w.heap.size + 1 < (w3).heap.size := (by omega); have hb3c2 := fun o => below_at hb3 (w.heap.size + 2) o (by first | omega | (simp only [ZA, ZS, ZD]; omega)); have hb3f2 := fun o => below_fr hb3 (w.heap.size + 2) o (by first | omega | (simp only [ZA, ZS, ZD]; omega)); have hb3l2 : w.heap.size + 2 < (w3).heap.size := (by omega)); obtain ⟨s3, A3, n3, c3', B3, m3, d3, rfl⟩ := own3.form) | ((go_at_call 132; (with_reducible refine (K4.out _ _ _ own3).mono ?_); rintro e w4 ⟨⟨v4, rfl, own4⟩, hb4⟩; have hb4z := Below.size hb4; (try simp only [ZA, ZS, ZD] at hb4z); have hb4c0 := fun o => below_at hb4 (w.heap.size) o (by first | omega | (simp only [ZA, ZS, ZD]; omega)); have hb4f0 := fun o => below_fr hb4 (w.heap.size) o (by first | omega | (simp only [ZA, ZS, ZD]; omega)); have hb4l0 : w.heap.size < (w4).heap.size := (by omega); have hb4c1 := fun o => below_at hb4 (w.heap.size + 1) o (by first | omega | (simp only [ZA, ZS, ZD]; omega)); have hb4f1 := fun o => below_fr hb4 (w.heap.size + 1) o (by first | omega | (simp only [ZA, ZS, ZD]; omega)); have hb4l1 : w.heap.size + 1 < (w4).heap.size := (by omega); have hb4c2 := fun o => below_at hb4 (w.heap.size + 2) o (by first | omega | (simp only [ZA, ZS, ZD]; omega)); have hb4f2 := fun o => below_fr hb4 (w.heap.size + 2) o (by first | omega | (simp only [ZA, ZS, ZD]; omega)); have hb4l2 : w.heap.size + 2 < (w4).heap.size := (by omega)); obtain ⟨s4, A4, n4, c4, B4, m4, d4, rfl⟩ := own4.form) | fail)
  all_goals
    go_wp2
    refine bodyPost_ret (v := rv s4 A4 n4 c4 B4 m4 d4) (by simp [results, Tryz.results96, go_sem, hb4c2, hb3c2, hb2c2, hb1c2]) rfl ?_
    exact ⟨⟨_, rfl, own4.set3 (by omega) (by omega) _ _ _⟩, (by have z0 := Below.size hb1; have z1 := Below.size hb2; have z2 := Below.size hb3; have z3 := Below.size hb4; (try simp only [ZA, ZS, ZD, ZN] at z0 z1 z2 z3 ⊢; skip); repeat' (first | (with_reducible exact Below.refl _ _) | (with_reducible assumption) | (with_reducible refine Below.alloc ?_ ?_ _) | (with_reducible refine Below.drew ?_) | (with_reducible refine below_drewN ?_ _) | (with_reducible refine Below.setCell ?_ ?_ _) | (with_reducible refine Below.trans ?_ (Below.mono (by with_reducible assumption) ?_)) | omega | (simp only [ZA, ZS, ZD, ZN]; omega) | go_size))⟩
end Go.Proofs.YtlncafhgmbhocaaGreatDoor
namespace Go.Proofs.YtlncafhgmbhocaaGreatDoor
open Go.RowKit
set_option linter.unusedSimpArgs false
set_option linter.unusedVariables false
set_option maxRecDepth 20000
attribute [local irreducible] nv wp win plainB validR valR canR mvE chkM codeC exK maxF dsum
/-! ## reference: exit, Fastest -/
set_option maxHeartbeats 4000000 in
theorem rexit_any {w : World} {AM AD : Option Addr} {cm cd L s : Nat} {c : Chn} (h : ChI w w.heap.size AM cm AD cd c) (ok : c.Ok) (hs : SizC c L) :
    Calls Tryz.prog 97 #[cv c.st c.sr AM c.nm cm AD c.nd cd, .int .i64 (s : Int)] w fun e w' => RetS1 (c.ex s) e w' ∧ Below w.heap.size w w' := by
  obtain ⟨x, hx⟩ : ∃ x : Nat → Rat, x = fun k => exK c.f c.q s k := ⟨_, rfl⟩
  have hex : c.ex s = x c.nm := by rw [hx]; rfl
  have hx0 : x 0 = 0 := by rw [hx]; unfold exK; rfl
  have hxs : ∀ k, x (k + 1) = if c.f k = s then x k + valR (c.R k) else x k := fun k => by rw [hx]; show exK c.f c.q s (k + 1) = _; rw [exK]; rfl
  have hsz : ∀ k, k ≤ c.nm → Sz L (x k) := fun k hk => by rw [hx]; exact hs.ex s k hk
  have hmv := ok.mv
  have hL1 := hs.L1
  have hL2 := hs.L2
  have hraw := hs.raw
  have hnm := hs.nm
  have hM := h.mv.1
  rw [hex]
  clear h ok hs hx hex
  obtain ⟨f, hf⟩ : ∃ f : Nat → Nat, f = c.f := ⟨_, rfl⟩
  rw [← hf] at hxs
  have hfk : ∀ k, k < c.nm → c.F k = (f k : Int) := fun k hk => by
    have := hmv k hk
    rw [hf]
    unfold Chn.f
    omega
  clear hmv hf
  obtain ⟨st, sr, nm, F, T, R, nd, D⟩ := c
  simp only at *
  have HX0 := Lib.hid hx0
  have HXS := Lib.hid hxs
  have HZ := Lib.hid hsz
  have HF := Lib.hid hfk
  have HR := Lib.hid hraw
  have HM := Lib.hid hM
  clear hx0 hxs hsz hfk hraw hM
  go_enter Tryz.func97, Tryz.ntmps97
  go_wp2
  go_loopw [11] (fun i wr => ∃ k : Nat, k ≤ nm ∧ i = .int .i64 (k : Int) ∧ SumR (w.heap.size + 1 + 1) (x k) wr ∧ Below (w.heap.size + 1 + 1) ((w.alloc (.cells #[.int .i64 st, .int .i64 sr, .slice AM nm cm, .slice AD nd cd] 25)).alloc (.cells #[.bool false, .slice none 0 0, .slice none 0 0] 44)) wr ∧ w.heap.size + 1 + 1 < wr.heap.size ∧ RatB wr (w.heap.size + 1 + 1) ∧ ∀ i, wr.frozen? ⟨w.heap.size + 1 + 1, i, none⟩ = false) (fun i _ => nm - (intOf i).toNat)
  case atStart =>
    refine ⟨0, Nat.zero_le _, rfl, ⟨false, none, 0, 0, none, 0, 0, (World.cell?_alloc_at _ _ _ _ (by simp)).trans rfl, (World.cell?_alloc_at _ _ _ _ (by simp)).trans rfl, (World.cell?_alloc_at _ _ _ _ (by simp)).trans rfl, by rw [HX0.out]; exact (OwQ.zero _ 0).rs⟩, (Below.refl _ _).alloc (by simp) _, by simp, ?_, fun i => World.frozen?_alloc_at _ _ _ _ (by simp)⟩
    have := RatB.new ((w.alloc (.cells #[.int .i64 st, .int .i64 sr, .slice AM nm cm, .slice AD nd cd] 25)).alloc (.cells #[.bool false, .slice none 0 0, .slice none 0 0] 44)) #[.bool false, .slice none 0 0, .slice none 0 0]
    rw [World.size_alloc, World.size_alloc] at this
    exact this
  case round =>
    obtain ⟨k, hk, rfl, ⟨s3, A3, n3, c3', B3, m3, d3, g0, g1, g2, r3⟩, hb, hz, hrb, hfz⟩ := hrel
    have hbw : Below w.heap.size w wr := (((Below.refl _ _).alloc (Nat.le_refl _) _).alloc (by simp) _).trans (hb.mono (by omega))
    by_cases hlt : k < nm
    · obtain ⟨b, off, s1, A1, n1, c1, B1, m1, d1, rfl, hbb, f0, f1, f2, f3, f4, r0⟩ := HM.out.at_ hlt
      have hFk := HF.out k hlt
      rw [hFk] at f0
      obtain ⟨z1, z2⟩ := HR.out k hlt
      have r1 := (r0.kp (Kp.of_below hbw)).rdq z1 z2
      have tc : ∀ {o : Nat} {v : Value}, w.cell? ⟨b, o, none⟩ = some v → wr.cell? ⟨b, o, none⟩ = some v := fun h => (hbw.cell (lt_of_cell h)).trans h
      have x0 := tc f0
      have x1 := tc f1
      have x2 := tc f2
      have x3 := tc f3
      have x4 := tc f4
      have qs := r3.canQ (HZ.out k hk)
      have K2 := Lib.hid (fun W (hb : Below wr.heap.size wr W) => raddQ (qs.below hb) (r1.below hb) hL1 (by omega))
      have hk0 : (0 : Int) ≤ (k : Int) := by omega
      have hki : (k : Int) < (nm : Int) := by omega
      have HXk := Lib.hid (HXS.out k)
      have HR3 := Lib.hid r3
      have HB := Lib.hid hb
      have HRB := Lib.hid hrb
      clear f0 f1 f2 f3 f4 r0 r1 qs r3 tc hb hrb hFk
      (have ossc := fun o i => below_at ((Below.refl wr.heap.size wr).alloc (Nat.le_refl _) o) (w.heap.size + 1 + 1) i (by omega)); (have ossf := fun o i => below_fr ((Below.refl wr.heap.size wr).alloc (Nat.le_refl _) o) (w.heap.size + 1 + 1) i (by omega))
      by_cases hu : f k = s
      · have e5 : ((f k : Int) == (s : Int)) = true := by simp [hu]
        have e6 : (f k == s) = true := by simp [hu]
        have HE := Lib.hid (HXk.out.trans (if_pos hu))
        clear hu HXk
        generalize f k = u at *
        (go_wp2_with fail; (with_reducible refine (K2.out _ (by (skip); repeat' (first | (with_reducible exact Below.refl _ _) | (with_reducible assumption) | (with_reducible refine Below.alloc ?_ ?_ _) | (with_reducible refine Below.drew ?_) | (with_reducible refine below_drewN ?_ _) | (with_reducible refine Below.setCell ?_ ?_ _) | (with_reducible refine Below.trans ?_ (Below.mono (by with_reducible assumption) ?_)) | omega | (simp only [ZA, ZS, ZD, ZN]; omega) | go_size))).mono ?_); rintro e w4 ⟨⟨v4, rfl, own4⟩, hb4⟩; have hb4z := Below.size hb4; (try simp only [ZA, ZS, ZD, ZN] at hb4z); have hb4c0 := fun o => below_at hb4 (w.heap.size + 1 + 1) o (by first | omega | (simp only [ZA, ZS, ZD, ZN]; omega)); have hb4f0 := fun o => below_fr hb4 (w.heap.size + 1 + 1) o (by first | omega | (simp only [ZA, ZS, ZD, ZN]; omega)))
        obtain ⟨s4, A4, n4, c4, B4, m4, d4, rfl⟩ := own4.form
        have HO4 := Lib.hid own4
        clear own4
        go_wp2
        go_roundw
        case rel =>
          have hrb4 : RatB w4 (w.heap.size + 1 + 1) := (HRB.out.below (w' := w4) (B := wr.heap.size) (by have z0 := Below.size hb4; (try simp only [ZA, ZS, ZD, ZN] at z0 ⊢; skip); repeat' (first | (with_reducible exact Below.refl _ _) | (with_reducible assumption) | (with_reducible refine Below.alloc ?_ ?_ _) | (with_reducible refine Below.drew ?_) | (with_reducible refine below_drewN ?_ _) | (with_reducible refine Below.setCell ?_ ?_ _) | (with_reducible refine Below.trans ?_ (Below.mono (by with_reducible assumption) ?_)) | omega | (simp only [ZA, ZS, ZD, ZN]; omega) | go_size)) hz)
          have s9 := set3 (w := w4) (g := w.heap.size + 1 + 1) (o := 0) (a := .bool s4) (b := .slice A4 n4 c4) (d := .slice B4 m4 d4) (by rw [hb4c0, ossc]; exact g0) (by rw [hb4c0, ossc]; exact g1) (by rw [hb4c0, ossc]; exact g2)
          refine ⟨k + 1, by omega, by go_num, ⟨s4, A4, n4, c4, B4, m4, d4, s9.1, s9.2.1, s9.2.2, by rw [HE.out]; exact HO4.out.rs.kp (Kp.store3 hrb4 (Nat.zero_le _) _ _ _)⟩, ?_, by simp; omega, ((hrb4.set _ _).set _ _).set _ _, fun i => ?_⟩
          · have hb9 : Below (w.heap.size + 1 + 1) wr w4 := (by have z0 := Below.size hb4; (try simp only [ZA, ZS, ZD, ZN] at z0 ⊢; skip); repeat' (first | (with_reducible exact Below.refl _ _) | (with_reducible assumption) | (with_reducible refine Below.alloc ?_ ?_ _) | (with_reducible refine Below.drew ?_) | (with_reducible refine below_drewN ?_ _) | (with_reducible refine Below.setCell ?_ ?_ _) | (with_reducible refine Below.trans ?_ (Below.mono (by with_reducible assumption) ?_)) | omega | (simp only [ZA, ZS, ZD, ZN]; omega) | go_size))
            exact (((HB.out.trans hb9).setCell (Nat.le_refl _) _).setCell (Nat.le_refl _) _).setCell (Nat.le_refl _) _
          · rw [World.frozen?_setCell, World.frozen?_setCell, World.frozen?_setCell, hb4f0, ossf]; exact hfz i
        case measure => simp [intOf]; omega
      · have e5 : ((f k : Int) == (s : Int)) = false := beq_eq_false_iff_ne.2 (by omega)
        have e6 : (f k == s) = false := by simp [hu]
        have HE := Lib.hid (HXk.out.trans (if_neg hu))
        clear hu HXk
        generalize f k = u at *
        go_wp2
        go_roundw
        case rel => exact ⟨k + 1, by omega, by go_num, ⟨s3, A3, n3, c3', B3, m3, d3, by rw [ossc]; exact g0, by rw [ossc]; exact g1, by rw [ossc]; exact g2, by rw [HE.out]; exact HR3.out.kp ((Kp.refl 0 wr).alloc _)⟩, HB.out.trans (by (skip); repeat' (first | (with_reducible exact Below.refl _ _) | (with_reducible assumption) | (with_reducible refine Below.alloc ?_ ?_ _) | (with_reducible refine Below.drew ?_) | (with_reducible refine below_drewN ?_ _) | (with_reducible refine Below.setCell ?_ ?_ _) | (with_reducible refine Below.trans ?_ (Below.mono (by with_reducible assumption) ?_)) | omega | (simp only [ZA, ZS, ZD, ZN]; omega) | go_size)), by simp; omega, HRB.out.below ((Below.refl wr.heap.size _).alloc (Nat.le_refl _) _) hz, fun i => by rw [ossf]; exact hfz i⟩
        case measure => simp [intOf]; omega
    · have hkn : k = nm := by omega
      subst hkn
      have t0 := (hb.cell (p := ⟨w.heap.size + 1, 0, none⟩) (by show w.heap.size + 1 < _; omega)).trans (by simp : _ = some (.bool false))
      have t1 := (hb.cell (p := ⟨w.heap.size + 1, 1, none⟩) (by show w.heap.size + 1 < _; omega)).trans (by simp : _ = some (.slice none 0 0))
      have t2 := (hb.cell (p := ⟨w.heap.size + 1, 2, none⟩) (by show w.heap.size + 1 < _; omega)).trans (by simp : _ = some (.slice none 0 0))
      have t3 := (hb.frozen (p := ⟨w.heap.size + 1, 0, none⟩) (by show w.heap.size + 1 < _; omega)).trans (by simp : _ = false)
      have t4 := (hb.frozen (p := ⟨w.heap.size + 1, 1, none⟩) (by show w.heap.size + 1 < _; omega)).trans (by simp : _ = false)
      have t5 := (hb.frozen (p := ⟨w.heap.size + 1, 2, none⟩) (by show w.heap.size + 1 < _; omega)).trans (by simp : _ = false)
      have hB1 : RatB wr (w.heap.size + 1) := by
        have h1 := RatB.new (w.alloc (.cells #[.int .i64 st, .int .i64 sr, .slice AM k cm, .slice AD nd cd] 25)) #[.bool false, .slice none 0 0, .slice none 0 0]
        rw [World.size_alloc] at h1
        exact h1.below hb (by omega)
      have HR3 := Lib.hid r3
      have HB1 := Lib.hid hB1
      have HBW := Lib.hid hbw
      clear r3 hb hrb hB1 hbw
      go_wp2
      refine bodyPost_ret (v := (rv s3 A3 n3 c3' B3 m3 d3)) (by simp [results, Tryz.results97, go_sem, t0, t1, t2]) rfl ?_
      exact ⟨⟨_, rfl, HR3.out.kp (Kp.store3 HB1.out (Nat.zero_le _) _ _ _)⟩, ((HBW.out.setCell (by show _ ≤ w.heap.size + 1; omega) _).setCell (by show _ ≤ w.heap.size + 1; omega) _).setCell (by show _ ≤ w.heap.size + 1; omega) _⟩
end Go.Proofs.YtlncafhgmbhocaaGreatDoor
namespace Go.Proofs.YtlncafhgmbhocaaGreatDoor
open Go.RowKit
set_option linter.unusedSimpArgs false
set_option linter.unusedVariables false
set_option maxRecDepth 20000
attribute [local irreducible] nv wp win plainB validR valR canR mvE chkM codeC exK maxF dsum
/-! ## reference: Fastest -/
def foldM (x : Nat → Rat) : Nat → Rat
  | 0 => 0
  | k + 1 => maxQ (foldM x k) (x k)
theorem foldM_sz {x : Nat → Rat} {L : Nat} (hL : 1 ≤ L) : ∀ {k : Nat}, (∀ j, j < k → Sz L (x j)) → Sz L (foldM x k)
  | 0, _ => Sz.zero hL
  | k + 1, h => by
    rw [foldM]
    unfold maxQ
    split
    · exact h k (by omega)
    · exact foldM_sz hL fun j hj => h j (by omega)
section
attribute [local semireducible] maxF
theorem foldM_max {x : Nat → Rat} (h : ∀ j, 0 ≤ x j) : ∀ k, foldM x (k + 1) = maxF x k
  | 0 => by
    have := h 0
    show maxQ 0 (x 0) = x 0
    unfold maxQ
    split
    · rfl
    · grind
  | k + 1 => by
    rw [foldM, foldM_max h k]
    conv => rhs; unfold maxF
    rfl
end
theorem Chn.ex_nonneg {c : Chn} (ok : c.Ok) (s : Nat) : 0 ≤ c.ex s := exK_nonneg fun j hj => Rat.le_of_lt (ok.mv j hj).2.2.2.2.2.1
theorem Chn.fold_fast {c : Chn} (ok : c.Ok) : foldM c.ex c.nd = c.fast := by
  have h1 := ok.lo
  have := foldM_max (Chn.ex_nonneg ok) (c.nd - 1)
  rw [show c.nd - 1 + 1 = c.nd by omega] at this
  exact this
def RetQc (q : Rat) (code : Int) (e : Ending) (w' : World) : Prop := if code = 0 then ∃ v, e = .returned (.tuple #[v, .int .i64 0]) ∧ RdS w' 0 v (canR q) else e = .returned (.tuple #[zr, .int .i64 code])
theorem retQc_0 {q : Rat} {code : Int} {v : Value} {w' : World} (h : code = 0) (hr : RdS w' 0 v (canR q)) : RetQc q code (.returned (.tuple #[v, .int .i64 0])) w' := by
  unfold RetQc; rw [if_pos h]; exact ⟨v, rfl, hr⟩
theorem retQc_n {q : Rat} {code : Int} {w' : World} (h : code ≠ 0) : RetQc q code (.returned (.tuple #[zr, .int .i64 code])) w' := by
  unfold RetQc; rw [if_neg h]
set_option maxHeartbeats 4000000 in
theorem rfastest_any {w : World} {AM AD : Option Addr} {cm cd L : Nat} {c : Chn} (h : ChI w w.heap.size AM cm AD cd c) (hs : ChS c L) :
    Calls Tryz.prog 70 #[cv c.st c.sr AM c.nm cm AD c.nd cd] w fun e w' => RetQc c.fast c.code e w' ∧ Below w.heap.size w w' := by
  have K1 := Lib.hid (fun W (hb : Below w.heap.size w W) => rchCheck (h.below hb) hs.nm hs.short)
  have hok := Chn.ok_iff (c := c)
  have hsz := hs.siz
  obtain ⟨cc, hcc⟩ : ∃ cc, cc = c.code := ⟨_, rfl⟩
  obtain ⟨q, hq⟩ : ∃ q, q = c.fast := ⟨_, rfl⟩
  obtain ⟨X, hX⟩ : ∃ X, X = c.ex := ⟨_, rfl⟩
  rw [← hcc] at K1 hok ⊢
  rw [← hq]
  by_cases h0 : cc = 0
  · have ok := hok.1 h0
    have siz := hsz ok
    have hsx : ∀ k, k < c.nd → Sz L (X k) := fun k _ => by rw [hX]; exact siz.ex k c.nm (Nat.le_refl _)
    have hL1 := siz.L1
    have hL2 := siz.L2
    have hn2 := ok.hi
    have hst := ok.st
    have K2 : Hid (∀ W (s : Nat), Below w.heap.size w W → Calls Tryz.prog 97 #[cv c.st c.sr AM c.nm cm AD c.nd cd, .int .i64 (s : Int)] W fun e w' => RetS1 (X s) e w' ∧ Below W.heap.size W w') := by
      show ∀ _, _
      intro W s hb
      rw [hX]
      exact rexit_any (h.below hb) ok siz
    have K3 := Lib.hid (fun W v u k s (hk : k ≤ c.nd) (hs : s < c.nd) (h1 : RdS W 0 v (canR (foldM X k))) (h2 : RdS W 0 u (canR (X s))) => rmaxQ (h1.canQ (foldM_sz hL1 fun j hj => hsx j (by omega))) (h2.canQ (hsx s hs)) hL1 (by omega))
    have HF : Hid (foldM X c.nd = q) := by show _ = _; rw [hq, hX]; exact Chn.fold_fast ok
    have H0 := Lib.hid h0
    rw [h0] at K1
    clear hok hsz ok siz hsx h0 h hs hcc hq hX
    obtain ⟨st, sr, nm, F, T, R, nd, D⟩ := c
    simp only at *
    subst hst
    go_enter Tryz.func70, Tryz.ntmps70
    (go_wp2_with fail; (with_reducible refine (K1.out _ (by (skip); repeat' (first | (with_reducible exact Below.refl _ _) | (with_reducible assumption) | (with_reducible refine Below.alloc ?_ ?_ _) | (with_reducible refine Below.drew ?_) | (with_reducible refine below_drewN ?_ _) | (with_reducible refine Below.setCell ?_ ?_ _) | (with_reducible refine Below.trans ?_ (Below.mono (by with_reducible assumption) ?_)) | omega | (simp only [ZA, ZS, ZD, ZN]; omega) | go_size))).mono ?_); rintro e w1 ⟨rfl, hb1⟩; have hb1z := Below.size hb1; (try simp only [ZA, ZS, ZD, ZN] at hb1z); have hb1c0 := fun o => below_at hb1 (w.heap.size) o (by first | omega | (simp only [ZA, ZS, ZD, ZN]; omega)); have hb1f0 := fun o => below_fr hb1 (w.heap.size) o (by first | omega | (simp only [ZA, ZS, ZD, ZN]; omega)); have hb1c1 := fun o => below_at hb1 (w.heap.size + 1) o (by first | omega | (simp only [ZA, ZS, ZD, ZN]; omega)); have hb1f1 := fun o => below_fr hb1 (w.heap.size + 1) o (by first | omega | (simp only [ZA, ZS, ZD, ZN]; omega)))
    have hw1 : w.heap.size + 1 < w1.heap.size := by have := hb1.size; simp at this; omega
    have y0 : w1.cell? ⟨w.heap.size, 0, none⟩ = some (.int .i64 (nd : Int)) := by rw [hb1c0]; simp
    have y1 : w1.cell? ⟨w.heap.size, 1, none⟩ = some (.int .i64 sr) := by rw [hb1c0]; simp
    have y2 : w1.cell? ⟨w.heap.size, 2, none⟩ = some (.slice AM nm cm) := by rw [hb1c0]; simp
    have y3 : w1.cell? ⟨w.heap.size, 3, none⟩ = some (.slice AD nd cd) := by rw [hb1c0]; simp
    have t0 : w1.cell? ⟨w.heap.size + 1, 0, none⟩ = some (.bool false) := by rw [hb1c1]; simp
    have t1 : w1.cell? ⟨w.heap.size + 1, 1, none⟩ = some (.slice none 0 0) := by rw [hb1c1]; simp
    have t2 : w1.cell? ⟨w.heap.size + 1, 2, none⟩ = some (.slice none 0 0) := by rw [hb1c1]; simp
    have t3 : ∀ i, w1.frozen? ⟨w.heap.size + 1, i, none⟩ = false := fun i => by rw [hb1f1]; simp
    have hB1 : RatB w1 (w.heap.size + 1) := by
      have h1 := RatB.new (w.alloc (.cells #[.int .i64 (nd : Int), .int .i64 sr, .slice AM nm cm, .slice AD nd cd] 25)) #[.bool false, .slice none 0 0, .slice none 0 0]
      rw [World.size_alloc] at h1
      exact h1.below hb1 (by simp)
    have hbw1 : Below w.heap.size w w1 := (by have z0 := Below.size hb1; (try simp only [ZA, ZS, ZD, ZN] at z0 ⊢; skip); repeat' (first | (with_reducible exact Below.refl _ _) | (with_reducible assumption) | (with_reducible refine Below.alloc ?_ ?_ _) | (with_reducible refine Below.drew ?_) | (with_reducible refine below_drewN ?_ _) | (with_reducible refine Below.setCell ?_ ?_ _) | (with_reducible refine Below.trans ?_ (Below.mono (by with_reducible assumption) ?_)) | omega | (simp only [ZA, ZS, ZD, ZN]; omega) | go_size))
    clear hb1c0 hb1c1 hb1f0 hb1f1 hb1 hb1z
    (have olwc := fun o i => below_at ((Below.refl w1.heap.size w1).alloc (Nat.le_refl _) o) (w.heap.size) i (by omega)); (have olwf := fun o i => below_fr ((Below.refl w1.heap.size w1).alloc (Nat.le_refl _) o) (w.heap.size) i (by omega))
    go_wp2
    clear olwc olwf
    go_loopw [15] (fun i wr => ∃ k : Nat, k ≤ nd ∧ i = .int .i64 (k : Int) ∧ SumR w1.heap.size (foldM X k) wr ∧ Below w1.heap.size w1 wr ∧ w1.heap.size < wr.heap.size ∧ RatB wr w1.heap.size ∧ ∀ i, wr.frozen? ⟨w1.heap.size, i, none⟩ = false) (fun i _ => nd - (intOf i).toNat)
    case atStart => exact ⟨0, Nat.zero_le _, rfl, ⟨false, none, 0, 0, none, 0, 0, (World.cell?_alloc_at _ _ _ _ rfl).trans rfl, (World.cell?_alloc_at _ _ _ _ rfl).trans rfl, (World.cell?_alloc_at _ _ _ _ rfl).trans rfl, (OwQ.zero _ 0).rs⟩, (Below.refl _ _).alloc (Nat.le_refl _) _, by simp, RatB.new _ _, fun i => World.frozen?_alloc_at _ _ _ _ rfl⟩
    case round =>
      obtain ⟨k, hk, rfl, ⟨s3, A3, n3, c3', B3, m3, d3, g0, g1, g2, r3⟩, hb, hz, hrb, hfz⟩ := hrel
      have hbz := hb.size
      have hbw : Below w.heap.size w wr := hbw1.trans (hb.mono (by omega))
      by_cases hlt : k < nd
      · have x0 := (hb.cell (p := ⟨w.heap.size, 0, none⟩) (by show w.heap.size < _; omega)).trans y0
        have x1 := (hb.cell (p := ⟨w.heap.size, 1, none⟩) (by show w.heap.size < _; omega)).trans y1
        have x2 := (hb.cell (p := ⟨w.heap.size, 2, none⟩) (by show w.heap.size < _; omega)).trans y2
        have x3 := (hb.cell (p := ⟨w.heap.size, 3, none⟩) (by show w.heap.size < _; omega)).trans y3
        have hki : (k : Int) < (nd : Int) := by omega
        have HR3 := Lib.hid r3
        have HB := Lib.hid hb
        have HRB := Lib.hid hrb
        have KE := Lib.hid (fun W (hb' : Below wr.heap.size wr W) => K2.out W k (hbw.trans (hb'.mono hbw.size)))
        have KM := Lib.hid (fun W u (hb' : Below wr.heap.size wr W) (hu : RdS W 0 u (canR (X k))) => K3.out W _ u k k (by omega) hlt (r3.kp (Kp.of_below hb')) hu)
        have HFM : Hid (maxQ (foldM X k) (X k) = foldM X (k + 1)) := rfl
        rw [HFM.out] at KM
        have ne1 : ¬ (w1.heap.size = w.heap.size) := by omega
        have ne2 : ¬ (w.heap.size = w1.heap.size) := by omega
        have hwr9 : w.heap.size < wr.heap.size := by omega
        clear r3 hb hrb hbw y0 y1 y2 y3
        go_wp2
        rw [ld_later 44 (.tmp 5)]
        go_region_held3 (fun W => W.cell? ⟨w.heap.size, 0, none⟩ = some (.int .i64 (nd : Int)) ∧ W.cell? ⟨w.heap.size, 1, none⟩ = some (.int .i64 sr) ∧ W.cell? ⟨w.heap.size, 2, none⟩ = some (.slice AM nm cm) ∧ W.cell? ⟨w.heap.size, 3, none⟩ = some (.slice AD nd cd)) (go_keep)
          (first | ((go_at_call 97; (with_reducible refine (KE.out _ (by (skip); repeat' (first | (with_reducible exact Below.refl _ _) | (with_reducible assumption) | (with_reducible refine Below.alloc ?_ ?_ _) | (with_reducible refine Below.drew ?_) | (with_reducible refine below_drewN ?_ _) | (with_reducible refine Below.setCell ?_ ?_ _) | (with_reducible refine Below.trans ?_ (Below.mono (by with_reducible assumption) ?_)) | omega | (simp only [ZA, ZS, ZD, ZN]; omega) | go_size))).mono ?_); rintro e w3 ⟨⟨v3, rfl, own3⟩, hb3⟩; have hb3z := Below.size hb3; (try simp only [ZA, ZS, ZD] at hb3z); have hb3c0 := fun o => below_at hb3 (w.heap.size) o (by first | omega | (simp only [ZA, ZS, ZD]; omega)); have hb3f0 := fun o => below_fr hb3 (w.heap.size) o (by first | omega | (simp only [ZA, ZS, ZD]; omega)); have hb3l0 : w.heap.size < (w3).heap.size := (by omega); have hb3c1 := fun o => below_at hb3 (w1.heap.size) o (by first | omega | (simp only [ZA, ZS, ZD]; omega)); have hb3f1 := fun o => below_fr hb3 (w1.heap.size) o (by first | omega | (simp only [ZA, ZS, ZD]; omega)); have hb3l1 : w1.heap.size < (w3).heap.size := (by omega)); obtain ⟨s5, A5, n5, c5, B5, m5, d5, rfl⟩ := own3.form) | ((go_at_call 96; (with_reducible refine (KM.out _ _ (by have z0 := Below.size hb3; (try simp only [ZA, ZS, ZD, ZN] at z0 ⊢; skip); repeat' (first | (with_reducible exact Below.refl _ _) | (with_reducible assumption) | (with_reducible refine Below.alloc ?_ ?_ _) | (with_reducible refine Below.drew ?_) | (with_reducible refine below_drewN ?_ _) | (with_reducible refine Below.setCell ?_ ?_ _) | (with_reducible refine Below.trans ?_ (Below.mono (by with_reducible assumption) ?_)) | omega | (simp only [ZA, ZS, ZD, ZN]; omega) | go_size)) own3).mono ?_); rintro e w4 ⟨⟨v4, rfl, own4⟩, hb4⟩; have hb4z := Below.size hb4; (try simp only [ZA, ZS, ZD] at hb4z); have hb4c0 := fun o => below_at hb4 (w.heap.size) o (by first | omega | (simp only [ZA, ZS, ZD]; omega)); have hb4f0 := fun o => below_fr hb4 (w.heap.size) o (by first | omega | (simp only [ZA, ZS, ZD]; omega)); have hb4l0 : w.heap.size < (w4).heap.size := (by omega); have hb4c1 := fun o => below_at hb4 (w1.heap.size) o (by first | omega | (simp only [ZA, ZS, ZD]; omega)); have hb4f1 := fun o => below_fr hb4 (w1.heap.size) o (by first | omega | (simp only [ZA, ZS, ZD]; omega)); have hb4l1 : w1.heap.size < (w4).heap.size := (by omega)); obtain ⟨s4, A4, n4, c4, B4, m4, d4, rfl⟩ := own4.form) | fail)
        all_goals
          have HO4 := Lib.hid own4
          have hb9 : Below wr.heap.size wr w4 := (by have z0 := Below.size hb3; have z1 := Below.size hb4; (try simp only [ZA, ZS, ZD, ZN] at z0 z1 ⊢; skip); repeat' (first | (with_reducible exact Below.refl _ _) | (with_reducible assumption) | (with_reducible refine Below.alloc ?_ ?_ _) | (with_reducible refine Below.drew ?_) | (with_reducible refine below_drewN ?_ _) | (with_reducible refine Below.setCell ?_ ?_ _) | (with_reducible refine Below.trans ?_ (Below.mono (by with_reducible assumption) ?_)) | omega | (simp only [ZA, ZS, ZD, ZN]; omega) | go_size))
          have HB9 := Lib.hid hb9
          clear own4 hb9
          go_wp2
          go_roundw
          case rel =>
            have hrb4 : RatB w4 w1.heap.size := HRB.out.below HB9.out hz
            have g9 := HB9.out
            have s9 := set3 (w := w4) (g := w1.heap.size) (o := 0) (a := .bool s4) (b := .slice A4 n4 c4) (d := .slice B4 m4 d4) ((g9.cell (p := ⟨w1.heap.size, 0, none⟩) hz).trans g0) ((g9.cell (p := ⟨w1.heap.size, 1, none⟩) hz).trans g1) ((g9.cell (p := ⟨w1.heap.size, 2, none⟩) hz).trans g2)
            refine ⟨k + 1, by omega, by go_num, ⟨s4, A4, n4, c4, B4, m4, d4, s9.1, s9.2.1, s9.2.2, HO4.out.rs.kp (Kp.store3 hrb4 (Nat.zero_le _) _ _ _)⟩, ?_, by have := g9.size; simp; omega, ((hrb4.set _ _).set _ _).set _ _, fun i => ?_⟩
            · exact (((HB.out.trans (g9.mono (by omega))).setCell (Nat.le_refl _) _).setCell (Nat.le_refl _) _).setCell (Nat.le_refl _) _
            · rw [World.frozen?_setCell, World.frozen?_setCell, World.frozen?_setCell]; exact (g9.frozen (p := ⟨w1.heap.size, i, none⟩) hz).trans (hfz i)
          case measure => simp [intOf]; omega
      · have hkn : k = nd := by omega
        subst hkn
        have z0 := (hb.cell (p := ⟨w.heap.size + 1, 0, none⟩) (by show w.heap.size + 1 < _; omega)).trans t0
        have z1 := (hb.cell (p := ⟨w.heap.size + 1, 1, none⟩) (by show w.heap.size + 1 < _; omega)).trans t1
        have z2 := (hb.cell (p := ⟨w.heap.size + 1, 2, none⟩) (by show w.heap.size + 1 < _; omega)).trans t2
        have z3 : ∀ i, wr.frozen? ⟨w.heap.size + 1, i, none⟩ = false := fun i => (hb.frozen (p := ⟨w.heap.size + 1, i, none⟩) (by show w.heap.size + 1 < _; omega)).trans (t3 i)
        have HR3 := Lib.hid r3
        have HB1 := Lib.hid (hB1.below hb (by omega))
        have HBW := Lib.hid hbw
        clear r3 hb hrb hB1 hbw t0 t1 t2 t3 y0 y1 y2 y3
        go_wp2
        refine bodyPost_ret (v := (.tuple #[rv s3 A3 n3 c3' B3 m3 d3, .int .i64 0])) (by simp [results, Tryz.results70, go_sem, z0, z1, z2]) rfl ?_
        exact ⟨retQc_0 H0.out (by rw [← HF.out]; exact HR3.out.kp (Kp.store3 HB1.out (Nat.zero_le _) _ _ _)), ((HBW.out.setCell (by show _ ≤ w.heap.size + 1; omega) _).setCell (by show _ ≤ w.heap.size + 1; omega) _).setCell (by show _ ≤ w.heap.size + 1; omega) _⟩
  · have H0 := Lib.hid h0
    have e5 : (cc != 0) = true := by simpa using h0
    have e6 : (cc == 0) = false := by simpa using h0
    clear hok hsz h0 h hs hcc hq hX
    obtain ⟨st, sr, nm, F, T, R, nd, D⟩ := c
    simp only at *
    go_enter Tryz.func70, Tryz.ntmps70
    (go_wp2_with fail; (with_reducible refine (K1.out _ (by (skip); repeat' (first | (with_reducible exact Below.refl _ _) | (with_reducible assumption) | (with_reducible refine Below.alloc ?_ ?_ _) | (with_reducible refine Below.drew ?_) | (with_reducible refine below_drewN ?_ _) | (with_reducible refine Below.setCell ?_ ?_ _) | (with_reducible refine Below.trans ?_ (Below.mono (by with_reducible assumption) ?_)) | omega | (simp only [ZA, ZS, ZD, ZN]; omega) | go_size))).mono ?_); rintro e w1 ⟨rfl, hb1⟩; have hb1z := Below.size hb1; (try simp only [ZA, ZS, ZD, ZN] at hb1z); have hb1c0 := fun o => below_at hb1 (w.heap.size) o (by first | omega | (simp only [ZA, ZS, ZD, ZN]; omega)); have hb1f0 := fun o => below_fr hb1 (w.heap.size) o (by first | omega | (simp only [ZA, ZS, ZD, ZN]; omega)); have hb1c1 := fun o => below_at hb1 (w.heap.size + 1) o (by first | omega | (simp only [ZA, ZS, ZD, ZN]; omega)); have hb1f1 := fun o => below_fr hb1 (w.heap.size + 1) o (by first | omega | (simp only [ZA, ZS, ZD, ZN]; omega)))
    have hb9 : Below w.heap.size w w1 := (by have z0 := Below.size hb1; (try simp only [ZA, ZS, ZD, ZN] at z0 ⊢; skip); repeat' (first | (with_reducible exact Below.refl _ _) | (with_reducible assumption) | (with_reducible refine Below.alloc ?_ ?_ _) | (with_reducible refine Below.drew ?_) | (with_reducible refine below_drewN ?_ _) | (with_reducible refine Below.setCell ?_ ?_ _) | (with_reducible refine Below.trans ?_ (Below.mono (by with_reducible assumption) ?_)) | omega | (simp only [ZA, ZS, ZD, ZN]; omega) | go_size))
    go_wp2
    refine bodyPost_ret (v := (.tuple #[zr, .int .i64 cc])) (by simp [results, Tryz.results70, go_sem, hb1c1]) rfl ?_
    exact ⟨retQc_n H0.out, ((hb9.setCell (p := ⟨w.heap.size + 1, 0, none⟩) (by show _ ≤ w.heap.size + 1; omega) _).setCell (p := ⟨w.heap.size + 1, 1, none⟩) (by show _ ≤ w.heap.size + 1; omega) _).setCell (p := ⟨w.heap.size + 1, 2, none⟩) (by show _ ≤ w.heap.size + 1; omega) _⟩
end Go.Proofs.YtlncafhgmbhocaaGreatDoor
