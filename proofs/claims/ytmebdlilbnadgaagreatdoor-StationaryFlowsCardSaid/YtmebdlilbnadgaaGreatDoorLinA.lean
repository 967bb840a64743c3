/- Contracts of functions and lemmas, used by the proofs of the given statements. No condition beyond those that each lemma names. -/
import Derived.Test.YtmebdlilbnadgaaGreatDoorJLinRow
namespace Go.Proofs.YtmebdlilbnadgaaGreatDoor
open Go.RowKit
set_option linter.unusedSimpArgs false
set_option linter.unusedVariables false
set_option maxRecDepth 20000
attribute [local irreducible] nv wp win plainB validR valR canR
/-! ## package linear: less -/
set_option maxHeartbeats 4000000 in
theorem less_any {w : World} {b0 g g2 c c2 n L : Nat} {x y : Nat → Rat} {fv : Value} {f : Rat} (h1 : OwR w b0 (some ⟨g, 0, none⟩) c n (can x)) (h2 : OwR w b0 (some ⟨g2, 0, none⟩) c2 n (can y)) (hne : g ≠ g2)
    (hf : RdS w b0 fv (canR f)) (sf : Sz L f) (sx : ∀ k, k < n → Sz L (x k)) (sy : ∀ k, k < n → Sz L (y k)) (hL : 1 ≤ L) (hL2 : L ≤ 10000000000) (hn : n ≤ 1000) :
    Calls Tryz.prog 131 #[.slice (some ⟨g, 0, none⟩) n c, .slice (some ⟨g2, 0, none⟩) n c2, fv] w fun e w' =>
      e = .returned (.tuple #[]) ∧ OwR w' b0 (some ⟨g, 0, none⟩) c n (can fun k => x k - f * y k) ∧ w.grownBy w' (some g) := by
  obtain ⟨s0, A0, n0, c0, B0, m0, d0, rfl⟩ := hf.form
  have hg := h1.lt
  have hg2 := h2.lt
  go_enter Tryz.func131, Tryz.ntmps131
  go_wp2
  go_loopw [9] (fun i wr => ∃ k : Nat, k ≤ n ∧ i = .int .i64 k ∧ OwR wr b0 (some ⟨g, 0, none⟩) c n (can fun j => if j < k then x j - f * y j else x j) ∧ (w.alloc (.cells #[.bool s0, .slice A0 n0 c0, .slice B0 m0 d0] 30)).grownBy wr (some g)) (fun i _ => n - (intOf i).toNat)
  case atStart => exact ⟨0, Nat.zero_le _, rfl, (h1.below ((Below.refl _ _).alloc (Nat.le_refl _) _)).congr fun k hk => by simp [can], ⟨rfl, rfl, rfl, Nat.le_refl _, fun _ _ _ => rfl⟩⟩
  case round =>
    obtain ⟨k, hk, rfl, own, hgr⟩ := hrel
    have hz := hgr.size
    simp only [World.size_alloc] at hz
    have hfz := own.frozen
    have HGR := Lib.hid hgr
    have bx : ∀ o, wr.cell? ⟨w.heap.size, o, none⟩ = (w.alloc (.cells #[.bool s0, .slice A0 n0 c0, .slice B0 m0 d0] 30)).cell? ⟨w.heap.size, o, none⟩ := fun o => grown_at HGR.out o (by simp) (by omega)
    have bx0 : wr.cell? ⟨w.heap.size, 0, none⟩ = some (.bool s0) := by rw [bx]; simp
    have bx1 : wr.cell? ⟨w.heap.size, 1, none⟩ = some (.slice A0 n0 c0) := by rw [bx]; simp
    have bx2 : wr.cell? ⟨w.heap.size, 2, none⟩ = some (.slice B0 m0 d0) := by rw [bx]; simp
    clear bx
    have kp0 : Kp b0 w wr := (Kp.refl b0 w).alloc (.cells #[.bool s0, .slice A0 n0 c0, .slice B0 m0 d0] 30) |>.trans ((h1.below ((Below.refl _ _).alloc (Nat.le_refl _) _)).kp hgr)
    have hf' := hf.kp kp0
    have h2' : OwR wr b0 (some ⟨g2, 0, none⟩) c2 n (can y) := (h2.below ((Below.refl _ _).alloc (Nat.le_refl _) _)).keep hgr ((h1.below ((Below.refl _ _).alloc (Nat.le_refl _) _)).kp hgr) (Ne.symm hne)
    by_cases hlt : k < n
    · obtain ⟨s1, A1, n1, c1, B1, m1, d1, e0, e1, e2, r1⟩ := own.at_ hlt
      obtain ⟨s2, A2, n2, c2', B2, m2, d2, f0, f1, f2, r2⟩ := h2'.at_ hlt
      have hkk : can (fun j => if j < k then x j - f * y j else x j) k = canR (x k) := by unfold can; simp
      rw [hkk] at r1
      have q1 := r1.canQ (sx k hlt)
      have q2 := r2.canQ (sy k hlt)
      have qf := hf'.canQ sf
      have K1 := Lib.hid (signQ q2 hL (by omega))
      by_cases hy : y k = 0
      · rw [hy, sgnQ_zero.2 rfl] at K1
        have HR : Hid (∀ j, can (fun j => if j < k then x j - f * y j else x j) j = can (fun j => if j < k + 1 then x j - f * y j else x j) j) := by
          show ∀ j, _ = _
          intro j
          unfold can
          by_cases h : j = k
          · subst h
            have : x j - f * y j = x j := by rw [hy]; grind
            simp [this]
          · by_cases h2 : j < k
            · simp [h2, show j < k + 1 by omega]
            · simp [h2, show ¬ j < k + 1 by omega]
        clear hy hkk hgr
        go_wp2_with (first | (go_at_call 30; (with_reducible refine (K1.out).mono ?_); rintro e w1 ⟨rfl, hb1⟩; have hb1z := Below.size hb1; (try simp only [ZA, ZS, ZD] at hb1z); have hb1c0 := fun o => below_at hb1 (g) o (by first | omega | (simp only [ZA, ZS, ZD]; omega)); have hb1f0 := fun o => below_fr hb1 (g) o (by first | omega | (simp only [ZA, ZS, ZD]; omega)); have hb1l0 : g < (w1).heap.size := (by omega); have hb1c1 := fun o => below_at hb1 (g2) o (by first | omega | (simp only [ZA, ZS, ZD]; omega)); have hb1f1 := fun o => below_fr hb1 (g2) o (by first | omega | (simp only [ZA, ZS, ZD]; omega)); have hb1l1 : g2 < (w1).heap.size := (by omega); have hb1c2 := fun o => below_at hb1 (w.heap.size) o (by first | omega | (simp only [ZA, ZS, ZD]; omega)); have hb1f2 := fun o => below_fr hb1 (w.heap.size) o (by first | omega | (simp only [ZA, ZS, ZD]; omega)); have hb1l2 : w.heap.size < (w1).heap.size := (by omega)) | fail)
        go_roundw
        case rel => exact ⟨k + 1, by omega, by go_num, (own.below hb1).congr fun j _ => HR.out j, grown_trans HGR.out (grown_of_below hb1 _)⟩
        case measure => simp [intOf]; omega
      · have hs1 := sgn_ne hy
        have hs2 := sgn_eq hy
        clear hy hkk hgr
        generalize sgnQ (y k) = sg at *
        have K2 := Lib.hid (fun W (hb : Below wr.heap.size wr W) => mulQ (qf.below hb) (q2.below hb) hL (by omega))
        have hsz := sf.mul (sy k hlt) hL
        have K3 := Lib.hid (fun W base v1 (hb : Below wr.heap.size wr W) (hv : OwQ W base v1 (f * y k)) => subQ ((q1.below hb).more (show L ≤ L + L by omega)) (hv.rq hsz) (by omega) (by omega))
        go_wp2_with (first | (go_at_call 30; (with_reducible refine (K1.out).mono ?_); rintro e w1 ⟨rfl, hb1⟩; have hb1z := Below.size hb1; (try simp only [ZA, ZS, ZD] at hb1z); have hb1c0 := fun o => below_at hb1 (g) o (by first | omega | (simp only [ZA, ZS, ZD]; omega)); have hb1f0 := fun o => below_fr hb1 (g) o (by first | omega | (simp only [ZA, ZS, ZD]; omega)); have hb1l0 : g < (w1).heap.size := (by omega); have hb1c1 := fun o => below_at hb1 (g2) o (by first | omega | (simp only [ZA, ZS, ZD]; omega)); have hb1f1 := fun o => below_fr hb1 (g2) o (by first | omega | (simp only [ZA, ZS, ZD]; omega)); have hb1l1 : g2 < (w1).heap.size := (by omega); have hb1c2 := fun o => below_at hb1 (w.heap.size) o (by first | omega | (simp only [ZA, ZS, ZD]; omega)); have hb1f2 := fun o => below_fr hb1 (w.heap.size) o (by first | omega | (simp only [ZA, ZS, ZD]; omega)); have hb1l2 : w.heap.size < (w1).heap.size := (by omega)) | fail)
        have ne1 : ¬ (g2 = g) := Ne.symm hne
        have ne2 : ¬ (w.heap.size = g) := by omega
        have ne3 : ¬ (g = w.heap.size) := by omega
        have hi0 : (0 : Int) ≤ (k : Int) := by omega
        have hi1 : (k : Int) < (n : Int) := by omega
        rw [ld_later 30 (.tmp 22)]
        go_region_held3 (fun W => W.cell? ⟨w.heap.size, 0, none⟩ = some (.bool s0) ∧ W.cell? ⟨w.heap.size, 1, none⟩ = some (.slice A0 n0 c0) ∧ W.cell? ⟨w.heap.size, 2, none⟩ = some (.slice B0 m0 d0) ∧ W.cell? ⟨g2, k * 3, none⟩ = some (.bool s2) ∧ W.cell? ⟨g2, k * 3 + 1, none⟩ = some (.slice A2 n2 c2') ∧ W.cell? ⟨g2, k * 3 + 2, none⟩ = some (.slice B2 m2 d2)) (go_keep)
          (first | ((go_at_call 12; (with_reducible refine (K2.out _ (by have z0 := Below.size hb1; (try simp only [ZA, ZS, ZD, ZN] at z0 ⊢; skip); repeat' (first | (with_reducible exact Below.refl _ _) | (with_reducible assumption) | (with_reducible refine Below.alloc ?_ ?_ _) | (with_reducible refine Below.drew ?_) | (with_reducible refine below_drewN ?_ _) | (with_reducible refine Below.setCell ?_ ?_ _) | (with_reducible refine Below.trans ?_ (Below.mono (by with_reducible assumption) ?_)) | omega | (simp only [ZA, ZS, ZD, ZN]; omega) | go_size))).mono ?_); rintro e w3 ⟨⟨v3, rfl, own3⟩, hb3⟩; have hb3z := Below.size hb3; (try simp only [ZA, ZS, ZD] at hb3z); have hb3c0 := fun o => below_at hb3 (g) o (by first | omega | (simp only [ZA, ZS, ZD]; omega)); have hb3f0 := fun o => below_fr hb3 (g) o (by first | omega | (simp only [ZA, ZS, ZD]; omega)); have hb3l0 : g < (w3).heap.size := (by omega); have hb3c1 := fun o => below_at hb3 (g2) o (by first | omega | (simp only [ZA, ZS, ZD]; omega)); have hb3f1 := fun o => below_fr hb3 (g2) o (by first | omega | (simp only [ZA, ZS, ZD]; omega)); have hb3l1 : g2 < (w3).heap.size := (by omega); have hb3c2 := fun o => below_at hb3 (w.heap.size) o (by first | omega | (simp only [ZA, ZS, ZD]; omega)); have hb3f2 := fun o => below_fr hb3 (w.heap.size) o (by first | omega | (simp only [ZA, ZS, ZD]; omega)); have hb3l2 : w.heap.size < (w3).heap.size := (by omega)); obtain ⟨s3, A3, n3, c3', B3, m3, d3, rfl⟩ := own3.form) | ((go_at_call 51; (with_reducible refine (K3.out _ _ _ (by have z0 := Below.size hb1; have z1 := Below.size hb3; (try simp only [ZA, ZS, ZD, ZN] at z0 z1 ⊢; skip); repeat' (first | (with_reducible exact Below.refl _ _) | (with_reducible assumption) | (with_reducible refine Below.alloc ?_ ?_ _) | (with_reducible refine Below.drew ?_) | (with_reducible refine below_drewN ?_ _) | (with_reducible refine Below.setCell ?_ ?_ _) | (with_reducible refine Below.trans ?_ (Below.mono (by with_reducible assumption) ?_)) | omega | (simp only [ZA, ZS, ZD, ZN]; omega) | go_size)) own3).mono ?_); rintro e w4 ⟨⟨v4, rfl, own4⟩, hb4⟩; have hb4z := Below.size hb4; (try simp only [ZA, ZS, ZD] at hb4z); have hb4c0 := fun o => below_at hb4 (g) o (by first | omega | (simp only [ZA, ZS, ZD]; omega)); have hb4f0 := fun o => below_fr hb4 (g) o (by first | omega | (simp only [ZA, ZS, ZD]; omega)); have hb4l0 : g < (w4).heap.size := (by omega); have hb4c1 := fun o => below_at hb4 (g2) o (by first | omega | (simp only [ZA, ZS, ZD]; omega)); have hb4f1 := fun o => below_fr hb4 (g2) o (by first | omega | (simp only [ZA, ZS, ZD]; omega)); have hb4l1 : g2 < (w4).heap.size := (by omega); have hb4c2 := fun o => below_at hb4 (w.heap.size) o (by first | omega | (simp only [ZA, ZS, ZD]; omega)); have hb4f2 := fun o => below_fr hb4 (w.heap.size) o (by first | omega | (simp only [ZA, ZS, ZD]; omega)); have hb4l2 : w.heap.size < (w4).heap.size := (by omega)); obtain ⟨s4, A4, n4, c4, B4, m4, d4, rfl⟩ := own4.form) | fail)
        all_goals
          have hb9 : Below wr.heap.size wr w4 := (by have z0 := Below.size hb1; have z1 := Below.size hb3; have z2 := Below.size hb4; (try simp only [ZA, ZS, ZD, ZN] at z0 z1 z2 ⊢; skip); repeat' (first | (with_reducible exact Below.refl _ _) | (with_reducible assumption) | (with_reducible refine Below.alloc ?_ ?_ _) | (with_reducible refine Below.drew ?_) | (with_reducible refine below_drewN ?_ _) | (with_reducible refine Below.setCell ?_ ?_ _) | (with_reducible refine Below.trans ?_ (Below.mono (by with_reducible assumption) ?_)) | omega | (simp only [ZA, ZS, ZD, ZN]; omega) | go_size))
          have o4 := (own.below hb9).set hlt (own4.rs (b0 := b0))
          go_wp2
          go_roundw
          case rel => exact ⟨k + 1, by omega, by go_num, o4.1.congr fun j _ => upd_round j, grown_trans HGR.out (grown_trans (grown_of_below hb9 _) o4.2)⟩
          case measure => simp [intOf]; omega
    · have HR : Hid (∀ j, j < n → can (fun j => if j < k then x j - f * y j else x j) j = can (fun j => x j - f * y j) j) := by
        show ∀ j, j < n → _ = _
        intro j hj
        unfold can
        simp [show j < k by omega]
      clear hgr
      go_wp2
      go_end0
      exact ⟨rfl, own.congr HR.out, grown_trans (grown_of_below ((Below.refl _ _).alloc (Nat.le_refl _) _) _) HGR.out⟩
end Go.Proofs.YtmebdlilbnadgaaGreatDoor
