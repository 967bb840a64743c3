/- Contracts of functions and lemmas, used by the proofs of the given statements. No condition beyond those that each lemma names. -/
import Derived.Test.YtmebdlilbnadgaaGreatDoorLinX
import Derived.Test.YtmebdlilbnadgaaGreatDoorJOpenNum
namespace Go.Proofs.YtmebdlilbnadgaaGreatDoor
open Go.RowKit
set_option linter.unusedSimpArgs false
set_option linter.unusedVariables false
set_option maxRecDepth 20000
attribute [local irreducible] nv wp win plainB validR valR canR
/-! ## reference: less -/
set_option maxHeartbeats 4000000 in
theorem rless_any {w : World} {b0 b1 b2 n m ca cb L : Nat} {A B : Option Addr} {X Y : Nat → Rw} {fv : Value} {F : Rw} (hx : RowA w b0 A n X) (hy : RowA w b1 B m Y) (hf : RdS w b2 fv F) (hnm : n ≤ m) (hn : n ≤ 1000)
    (hzx : ∀ k, k < n → (X k).2.1.length ≤ L ∧ (X k).2.2.length ≤ L) (hzy : ∀ k, k < n → (Y k).2.1.length ≤ L ∧ (Y k).2.2.length ≤ L) (hzf : F.2.1.length ≤ L ∧ F.2.2.length ≤ L) (hL : 1 ≤ L) (hL2 : L ≤ 10000000000) :
    Calls Tryz.prog 135 #[.slice A n ca, fv, .slice B m cb] w fun e w' => RetW w.heap.size n (fun k => valR (X k) - valR F * valR (Y k)) e w' ∧ Below w.heap.size w w' := by
  obtain ⟨x, hxe⟩ : ∃ x : Nat → Rat, x = fun k => valR (X k) := ⟨_, rfl⟩
  obtain ⟨y, hye⟩ : ∃ y : Nat → Rat, y = fun k => valR (Y k) := ⟨_, rfl⟩
  obtain ⟨f, hfe⟩ : ∃ f : Rat, f = valR F := ⟨_, rfl⟩
  obtain ⟨G, hG⟩ : ∃ G : Nat → Rat, G = fun k => valR (X k) - valR F * valR (Y k) := ⟨_, rfl⟩
  have HG := Lib.hid (fun k => (by rw [hG, hxe, hye, hfe] : G k = x k - f * y k))
  have HX := Lib.hid (fun k => (by rw [hxe] : valR (X k) = x k))
  have HY := Lib.hid (fun k => (by rw [hye] : valR (Y k) = y k))
  have HZX := Lib.hid hzx
  have HZY := Lib.hid hzy
  have HA := Lib.hid hx
  have HB := Lib.hid hy
  obtain ⟨s0, A0, n0, c0, B0, m0, d0, rfl⟩ := hf.form
  obtain ⟨W0, hW0⟩ : ∃ W0, W0 = w.alloc (.cells #[.bool s0, .slice A0 n0 c0, .slice B0 m0 d0] 30) := ⟨_, rfl⟩
  have hbW : Below w.heap.size w W0 := by rw [hW0]; exact (Below.refl _ _).alloc (Nat.le_refl _) _
  have hWz : W0.heap.size = w.heap.size + 1 := by rw [hW0]; simp
  have hqf := (hf.kp (Kp.of_below hbW)).rdq hzf.1 hzf.2
  rw [← hfe] at hqf
  have hw0 : W0.cell? ⟨w.heap.size, 0, none⟩ = some (.bool s0) := by rw [hW0]; simp
  have hw1 : W0.cell? ⟨w.heap.size, 1, none⟩ = some (.slice A0 n0 c0) := by rw [hW0]; simp
  have hw2 : W0.cell? ⟨w.heap.size, 2, none⟩ = some (.slice B0 m0 d0) := by rw [hW0]; simp
  have HQF := Lib.hid hqf
  have HW := Lib.hid hW0
  rw [← hG]
  clear hxe hye hfe hG hzx hzy hzf hx hy hf hqf hW0
  go_enter Tryz.func135, Tryz.ntmps135
  go_wp2
  rw [← HW.out]
  go_loopw [7, 11] (fun a i wr => ∃ k A c, k ≤ n ∧ i = .int .i64 (k : Int) ∧ a = .slice A k c ∧ OwR wr 0 A c k (can G) ∧ (∀ q, (Value.slice A k c).ownBlock = some q → w.heap.size + 1 ≤ q) ∧ Below (w.heap.size + 1) W0 wr) (fun _ i _ => n - (intOf i).toNat)
  case atStart => exact ⟨0, none, 0, Nat.zero_le _, rfl, rfl, OwR.nil_ _ _ _, (fun q hq => nomatch hq), Below.refl _ _⟩
  case round =>
    obtain ⟨k, A9, c9, hk, rfl, rfl, own, hfar, hb⟩ := hrel
    have hbz := hb.size
    have hbw : Below w.heap.size w wr := hbW.trans (hb.mono (by omega))
    have HO := Lib.hid own
    have HF := Lib.hid hfar
    clear own hfar
    by_cases hlt : k < n
    · obtain ⟨ax, ox, s1, A1, n1, c1, B1, m1, d1, rfl, hax, f0, f1, f2, r1⟩ := HA.out.at_ hlt
      obtain ⟨bx, py, s2, A2, n2, c2, B2, m2, d2, rfl, hbx, g0, g1, g2, r2⟩ := HB.out.at_ (show k < m by omega)
      have tc : ∀ {b o : Nat} {v : Value}, w.cell? ⟨b, o, none⟩ = some v → wr.cell? ⟨b, o, none⟩ = some v := fun h => (hbw.cell (lt_of_cell h)).trans h
      have hf0 := tc f0
      have hf1 := tc f1
      have hf2 := tc f2
      have hg0 := tc g0
      have hg1 := tc g1
      have hg2 := tc g2
      have hv0 := (hb.cell (p := ⟨w.heap.size, 0, none⟩) (by show w.heap.size < _; omega)).trans hw0
      have hv1 := (hb.cell (p := ⟨w.heap.size, 1, none⟩) (by show w.heap.size < _; omega)).trans hw1
      have hv2 := (hb.cell (p := ⟨w.heap.size, 2, none⟩) (by show w.heap.size < _; omega)).trans hw2
      have q1 := (r1.kp (Kp.of_below hbw)).rdq (HZX.out k hlt).1 (HZX.out k hlt).2
      have q2 := (r2.kp (Kp.of_below hbw)).rdq (HZY.out k hlt).1 (HZY.out k hlt).2
      rw [HX.out k] at q1
      rw [HY.out k] at q2
      have qf := HQF.out.below (hb.mono (by omega))
      have sp := (qf.sz hL).mul (q2.sz hL) hL
      have K1 := Lib.hid (fun W (hb : Below wr.heap.size wr W) => rmulQ (qf.below hb) (q2.below hb) hL (by omega))
      have K2 := Lib.hid (fun W base v1 (hb : Below wr.heap.size wr W) (hv : OwQ W base v1 (f * y k)) => (by
        have := rsubQ ((q1.below hb).more (show L ≤ L + L by omega)) (hv.rq sp) (by omega) (by omega)
        rw [← HG.out k] at this
        exact this : Calls Tryz.prog 56 #[rv s1 A1 n1 c1 B1 m1 d1, v1] W fun e w' => RetQ W.heap.size (G k) e w' ∧ Below W.heap.size W w'))
      have HN : Hid (∀ q, q < w.heap.size + 1 → some q ≠ (Value.slice A9 k c9).ownBlock) := fun q hq e => by have := HF.out q e.symm; omega
      have hk0 : (0 : Int) ≤ (k : Int) := by omega
      have hk1 : (k : Int) < (n : Int) := by omega
      have hk2 : (k : Int) < (m : Int) := by omega
      clear q1 q2 qf sp f0 f1 f2 g0 g1 g2 r1 r2 tc
      go_wp2
      go_region_held3 (fun W => W.cell? ⟨ax, ox + k * 3, none⟩ = some (.bool s1) ∧ W.cell? ⟨ax, ox + k * 3 + 1, none⟩ = some (.slice A1 n1 c1) ∧ W.cell? ⟨ax, ox + k * 3 + 2, none⟩ = some (.slice B1 m1 d1) ∧ W.cell? ⟨bx, py + k * 3, none⟩ = some (.bool s2) ∧ W.cell? ⟨bx, py + k * 3 + 1, none⟩ = some (.slice A2 n2 c2) ∧ W.cell? ⟨bx, py + k * 3 + 2, none⟩ = some (.slice B2 m2 d2) ∧ W.cell? ⟨w.heap.size, 0, none⟩ = some (.bool s0) ∧ W.cell? ⟨w.heap.size, 1, none⟩ = some (.slice A0 n0 c0) ∧ W.cell? ⟨w.heap.size, 2, none⟩ = some (.slice B0 m0 d0)) (go_keep)
        (first | ((go_at_call 67; (with_reducible refine (K1.out _ (by (skip); repeat' (first | (with_reducible exact Below.refl _ _) | (with_reducible assumption) | (with_reducible refine Below.alloc ?_ ?_ _) | (with_reducible refine Below.drew ?_) | (with_reducible refine below_drewN ?_ _) | (with_reducible refine Below.setCell ?_ ?_ _) | (with_reducible refine Below.trans ?_ (Below.mono (by with_reducible assumption) ?_)) | omega | (simp only [ZA, ZS, ZD, ZN]; omega) | go_size))).mono ?_); rintro e w3 ⟨⟨v3, rfl, own3⟩, hb4⟩; have hb4z := Below.size hb4; (try simp only [ZA, ZS, ZD] at hb4z); have hb4c0 := fun o => below_at hb4 (ax) o (by first | omega | (simp only [ZA, ZS, ZD]; omega)); have hb4f0 := fun o => below_fr hb4 (ax) o (by first | omega | (simp only [ZA, ZS, ZD]; omega)); have hb4l0 : ax < (w3).heap.size := (by omega); have hb4c1 := fun o => below_at hb4 (bx) o (by first | omega | (simp only [ZA, ZS, ZD]; omega)); have hb4f1 := fun o => below_fr hb4 (bx) o (by first | omega | (simp only [ZA, ZS, ZD]; omega)); have hb4l1 : bx < (w3).heap.size := (by omega); have hb4c2 := fun o => below_at hb4 (w.heap.size) o (by first | omega | (simp only [ZA, ZS, ZD]; omega)); have hb4f2 := fun o => below_fr hb4 (w.heap.size) o (by first | omega | (simp only [ZA, ZS, ZD]; omega)); have hb4l2 : w.heap.size < (w3).heap.size := (by omega)); obtain ⟨s3, A3, n3, c3', B3, m3, d3, rfl⟩ := own3.form) | ((go_at_call 56; (with_reducible refine (K2.out _ _ _ (by have z0 := Below.size hb4; (try simp only [ZA, ZS, ZD, ZN] at z0 ⊢; skip); repeat' (first | (with_reducible exact Below.refl _ _) | (with_reducible assumption) | (with_reducible refine Below.alloc ?_ ?_ _) | (with_reducible refine Below.drew ?_) | (with_reducible refine below_drewN ?_ _) | (with_reducible refine Below.setCell ?_ ?_ _) | (with_reducible refine Below.trans ?_ (Below.mono (by with_reducible assumption) ?_)) | omega | (simp only [ZA, ZS, ZD, ZN]; omega) | go_size)) own3).mono ?_); rintro e w4 ⟨⟨v4, rfl, own4⟩, hb6⟩; have hb6z := Below.size hb6; (try simp only [ZA, ZS, ZD] at hb6z); have hb6c0 := fun o => below_at hb6 (ax) o (by first | omega | (simp only [ZA, ZS, ZD]; omega)); have hb6f0 := fun o => below_fr hb6 (ax) o (by first | omega | (simp only [ZA, ZS, ZD]; omega)); have hb6l0 : ax < (w4).heap.size := (by omega); have hb6c1 := fun o => below_at hb6 (bx) o (by first | omega | (simp only [ZA, ZS, ZD]; omega)); have hb6f1 := fun o => below_fr hb6 (bx) o (by first | omega | (simp only [ZA, ZS, ZD]; omega)); have hb6l1 : bx < (w4).heap.size := (by omega); have hb6c2 := fun o => below_at hb6 (w.heap.size) o (by first | omega | (simp only [ZA, ZS, ZD]; omega)); have hb6f2 := fun o => below_fr hb6 (w.heap.size) o (by first | omega | (simp only [ZA, ZS, ZD]; omega)); have hb6l2 : w.heap.size < (w4).heap.size := (by omega)); obtain ⟨s4, A4, n4, c4, B4, m4, d4, rfl⟩ := own4.form) | (refine step_appR (by rfl) (.tmp 14) (.tmp 26) (by rfl) 0 A9 c9 k (can G) (by rfl) (by exact HO.out.below (by have z0 := Below.size hb4; have z1 := Below.size hb6; (try simp only [ZA, ZS, ZD, ZN] at z0 z1 ⊢; skip); repeat' (first | (with_reducible exact Below.refl _ _) | (with_reducible assumption) | (with_reducible refine Below.alloc ?_ ?_ _) | (with_reducible refine Below.drew ?_) | (with_reducible refine below_drewN ?_ _) | (with_reducible refine Below.setCell ?_ ?_ _) | (with_reducible refine Below.trans ?_ (Below.mono (by with_reducible assumption) ?_)) | omega | (simp only [ZA, ZS, ZD, ZN]; omega) | go_size))) w4.heap.size s4 A4 n4 c4 B4 m4 d4 (canR (G k)) (by rfl) (by simp) (by simp) (by simp) (by exact (own4.alloc _).rs) (by omega) (Nat.zero_le _) ?_; intro g cap w5 hown5 hgrow5 hfr5; have hx5 := fun o => hgrow5.cell_far ⟨ax, o, none⟩ (by simp; omega) (HN.out ax (by omega)); have hy5 := fun o => hgrow5.cell_far ⟨bx, o, none⟩ (by simp; omega) (HN.out bx (by omega)); have hz5 := fun o => hgrow5.cell_far ⟨w.heap.size, o, none⟩ (by simp; omega) (HN.out w.heap.size (by omega))) | fail)
      all_goals
        have hown6 := hown5
        rw [upd_can, upd_self] at hown6
        have hb9 : Below (w.heap.size + 1) wr w5 := (show Below (w.heap.size + 1) wr _ from ((((Below.refl wr.heap.size wr).drew).trans (hb4.mono (by simp))).trans (hb6.mono (by have := hb4.size; simp at this; omega))).mono (by omega) |>.alloc (by have := hb4.size; have := hb6.size; simp at *; omega) _).trans (below_of_row hgrow5 (fun q hq => HF.out q hq) (by simp; omega))
        go_wp2
        go_roundw
        case rel =>
          refine ⟨k + 1, some ⟨g, 0, none⟩, cap, by omega, by go_num, rfl, hown6, fun q hq => ?_, hb.trans hb9⟩
          have hq2 : g = q := (by injection hq)
          rw [← hq2]
          rcases hfr5 with h | h
          · exact HF.out g h
          · simp at h; omega
        case measure => simp [intOf]; omega
    · have : k = n := by omega
      subst this
      go_wp2
      go_ret
      exact ⟨⟨_, _, rfl, HO.out, fun q hq => by have := HF.out q hq; omega⟩, hbw⟩
end Go.Proofs.YtmebdlilbnadgaaGreatDoor
