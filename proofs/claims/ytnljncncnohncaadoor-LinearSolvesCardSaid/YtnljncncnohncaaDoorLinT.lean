/- Contracts of functions and lemmas, used by the proofs of the given statements. No condition beyond those that each lemma names. -/
import Derived.Test.YtnljncncnohncaaDoorJLinR
namespace Go.Proofs.YtnljncncnohncaaDoor
open Go.RowKit
set_option linter.unusedSimpArgs false
set_option linter.unusedVariables false
set_option maxRecDepth 20000
attribute [local irreducible] nv wp win plainB validR valR canR
/-! ## reference: Same, at equal matrices of valid numbers -/
theorem same_valid {w : World} {s : Bool} {A B : Option Addr} {n c m d L : Nat} {q : Rat} (h : RdR w (rv s A n c B m d) (canR q)) (hs : Sz L q) (hL : L ≤ 1000000000) :
    Calls Tryd.prog 43 #[rv s A n c B m d] w fun e w' => e = .returned (.bool true) ∧ Below w.heap.size w w' := by
  obtain ⟨A', c', B', d', e, h1, h2, h3, h4, h5⟩ := h
  have hz := Sz_canR hs
  rw [e]
  have := rvalid_any (canR q).1 A' B' (canR q).2.1 (canR q).2.2 c' d' w (by omega) (by omega) h1 h2 h3.1 h3.2 h4 h5
  rw [show validR ((canR q).1, (canR q).2.1, (canR q).2.2) = true from canR_valid q] at this
  exact this
set_option maxHeartbeats 4000000 in
theorem same_any {w : World} {n ca cb L : Nat} {A B : Option Addr} {len : Nat → Nat} {M : Nat → Nat → Rat} (h : MatI w w.heap.size A n len (fun i => can (M i))) (h' : MatI w w.heap.size B n len (fun i => can (M i)))
    (hn : n ≤ 1000) (hl : ∀ i, i < n → len i ≤ 1000) (hs : ∀ i k, i < n → k < len i → Sz L (M i k)) (hL : 1 ≤ L) (hL2 : L ≤ 1000000000) :
    Calls Tryd.prog 17 #[.slice A n ca, .slice B n cb] w fun e w' => e = .returned (.bool true) ∧ Below w.heap.size w w' := by
  have HA := Lib.hid h
  have HB := Lib.hid h'
  have HS := Lib.hid hs
  have HL := Lib.hid hl
  clear h h' hs hl
  go_enter Tryd.func17, Tryd.ntmps17
  go_wp2
  go_loopw [14] (fun c wr => ∃ i : Nat, i ≤ n ∧ c = .int .i64 i ∧ Below w.heap.size w wr) (fun c _ => n - (intOf c).toNat)
  case atStart => exact ⟨0, Nat.zero_le _, rfl, Below.refl _ _⟩
  case round =>
    obtain ⟨i, hi, rfl, hb⟩ := hrel
    have hbz := hb.size
    by_cases hlt : i < n
    · obtain ⟨x1, x2, Ai, ci, rfl, hx1, ha0, hlc, hrow⟩ := HA.out.at_ hlt
      obtain ⟨y1, y2, Bi, di, rfl, hy1, hb0, hld, hrow'⟩ := HB.out.at_ hlt
      have ha1 := (hb.cell (lt_of_cell ha0)).trans ha0
      have hb1 := (hb.cell (lt_of_cell hb0)).trans hb0
      have hli := HL.out i hlt
      have HR := Lib.hid hrow
      have HR' := Lib.hid hrow'
      have HSi := Lib.hid (fun k hk => HS.out i k hlt hk)
      have HA0 := Lib.hid ha0
      have HB0 := Lib.hid hb0
      clear hrow hrow' ha0 hb0
      have hi0 : (0 : Int) ≤ (i : Int) := by omega
      have hi1 : (i : Int) < (n : Int) := by omega
      generalize len i = li at *
      go_wp2
      go_region
      go_wp2
      go_loopw [33] (fun c wr => ∃ k : Nat, k ≤ li ∧ c = .int .i64 k ∧ Below w.heap.size w wr) (fun c _ => li - (intOf c).toNat)
      case atStart => exact ⟨0, Nat.zero_le _, rfl, ⟨hb.os, hb.tape, hb.output, hb.size, hb.block⟩⟩
      case round =>
        obtain ⟨k, hk, rfl, hb2⟩ := hrel
        have hb2z := hb2.size
        by_cases hlt2 : k < li
        · obtain ⟨ax, ox, s1, A1, n1, c1, B1, m1, d1, rfl, hax, f0, f1, f2, r1⟩ := HR.out.ra.at_ hlt2
          obtain ⟨bx, py, s2, A2, n2, c2, B2, m2, d2, rfl, hbx, g0, g1, g2, r2⟩ := HR'.out.ra.at_ hlt2
          have tc : ∀ {b o : Nat} {v : Value}, w.cell? ⟨b, o, none⟩ = some v → wr.cell? ⟨b, o, none⟩ = some v := fun h => (hb2.cell (lt_of_cell h)).trans h
          have hh0 := tc HA0.out
          have hh1 := tc HB0.out
          have hf0 := tc f0
          have hf1 := tc f1
          have hf2 := tc f2
          have hg0 := tc g0
          have hg1 := tc g1
          have hg2 := tc g2
          have q1 := RdS.canQ (q := M i k) (r1.kp (Kp.of_below hb2)) (HSi.out k hlt2)
          have q2 := RdS.canQ (q := M i k) (r2.kp (Kp.of_below hb2)) (HSi.out k hlt2)
          have v1 : RdR wr (rv s1 A1 n1 c1 B1 m1 d1) (canR (M i k)) := (r1.kp (Kp.of_below hb2)).rdr
          have hsq := HSi.out k hlt2
          have K1 := Lib.hid (fun W (hb : Below wr.heap.size wr W) => same_valid (v1.below hb) hsq hL2)
          have K2 := Lib.hid (fun W (hb : Below wr.heap.size wr W) => (by
            have := rcmpQ (q1.below hb) (q2.below hb) hL (by omega)
            rw [Rat.sub_self, show sgnQ 0 = 0 from rfl] at this
            exact this : Calls Tryd.prog 44 #[rv s1 A1 n1 c1 B1 m1 d1, rv s2 A2 n2 c2 B2 m2 d2] W fun e w' => e = .returned (.int .i64 0) ∧ Below W.heap.size W w'))
          clear q1 q2 v1 hsq f0 f1 f2 g0 g1 g2 r1 r2 tc
          have hk0 : (0 : Int) ≤ (k : Int) := by omega
          have hk1 : (k : Int) < (li : Int) := by omega
          go_wp2
          go_region_held3 (fun W => W.cell? ⟨x1, x2 + i, none⟩ = some (.slice (some ⟨ax, ox, none⟩) li ci) ∧ W.cell? ⟨y1, y2 + i, none⟩ = some (.slice (some ⟨bx, py, none⟩) li di) ∧ W.cell? ⟨ax, ox + k * 3, none⟩ = some (.bool s1) ∧ W.cell? ⟨ax, ox + k * 3 + 1, none⟩ = some (.slice A1 n1 c1) ∧ W.cell? ⟨ax, ox + k * 3 + 2, none⟩ = some (.slice B1 m1 d1) ∧ W.cell? ⟨bx, py + k * 3, none⟩ = some (.bool s2) ∧ W.cell? ⟨bx, py + k * 3 + 1, none⟩ = some (.slice A2 n2 c2) ∧ W.cell? ⟨bx, py + k * 3 + 2, none⟩ = some (.slice B2 m2 d2)) (go_keep)
            (first | (go_at_call 43; (with_reducible refine (K1.out _ (by (skip); repeat' (first | (with_reducible exact Below.refl _ _) | (with_reducible assumption) | (with_reducible refine Below.alloc ?_ ?_ _) | (with_reducible refine Below.drew ?_) | (with_reducible refine below_drewN ?_ _) | (with_reducible refine Below.setCell ?_ ?_ _) | (with_reducible refine Below.trans ?_ (Below.mono (by with_reducible assumption) ?_)) | omega | (simp only [World.size_alloc, World.size_setCell, World.size_drew, size_drewN']; omega) | go_size))).mono ?_); rintro e w3 ⟨rfl, hb4⟩; have hb4z := Below.size hb4; (try simp only [World.size_alloc, World.size_setCell, World.size_drew] at hb4z); have hb4c0 := fun o => below_at hb4 (x1) o (by first | omega | (simp only [World.size_alloc, World.size_setCell, World.size_drew]; omega)); have hb4f0 := fun o => below_fr hb4 (x1) o (by first | omega | (simp only [World.size_alloc, World.size_setCell, World.size_drew]; omega)); have hb4l0 : x1 < (w3).heap.size := (by omega); have hb4c1 := fun o => below_at hb4 (y1) o (by first | omega | (simp only [World.size_alloc, World.size_setCell, World.size_drew]; omega)); have hb4f1 := fun o => below_fr hb4 (y1) o (by first | omega | (simp only [World.size_alloc, World.size_setCell, World.size_drew]; omega)); have hb4l1 : y1 < (w3).heap.size := (by omega); have hb4c2 := fun o => below_at hb4 (ax) o (by first | omega | (simp only [World.size_alloc, World.size_setCell, World.size_drew]; omega)); have hb4f2 := fun o => below_fr hb4 (ax) o (by first | omega | (simp only [World.size_alloc, World.size_setCell, World.size_drew]; omega)); have hb4l2 : ax < (w3).heap.size := (by omega); have hb4c3 := fun o => below_at hb4 (bx) o (by first | omega | (simp only [World.size_alloc, World.size_setCell, World.size_drew]; omega)); have hb4f3 := fun o => below_fr hb4 (bx) o (by first | omega | (simp only [World.size_alloc, World.size_setCell, World.size_drew]; omega)); have hb4l3 : bx < (w3).heap.size := (by omega)) | (go_at_call 44; (with_reducible refine (K2.out _ (by have z0 := Below.size hb4; (try simp only [World.size_alloc, World.size_setCell, World.size_drew, size_drewN'] at z0 ⊢; skip); repeat' (first | (with_reducible exact Below.refl _ _) | (with_reducible assumption) | (with_reducible refine Below.alloc ?_ ?_ _) | (with_reducible refine Below.drew ?_) | (with_reducible refine below_drewN ?_ _) | (with_reducible refine Below.setCell ?_ ?_ _) | (with_reducible refine Below.trans ?_ (Below.mono (by with_reducible assumption) ?_)) | omega | (simp only [World.size_alloc, World.size_setCell, World.size_drew, size_drewN']; omega) | go_size))).mono ?_); rintro e w4 ⟨rfl, hb6⟩; have hb6z := Below.size hb6; (try simp only [World.size_alloc, World.size_setCell, World.size_drew] at hb6z); have hb6c0 := fun o => below_at hb6 (x1) o (by first | omega | (simp only [World.size_alloc, World.size_setCell, World.size_drew]; omega)); have hb6f0 := fun o => below_fr hb6 (x1) o (by first | omega | (simp only [World.size_alloc, World.size_setCell, World.size_drew]; omega)); have hb6l0 : x1 < (w4).heap.size := (by omega); have hb6c1 := fun o => below_at hb6 (y1) o (by first | omega | (simp only [World.size_alloc, World.size_setCell, World.size_drew]; omega)); have hb6f1 := fun o => below_fr hb6 (y1) o (by first | omega | (simp only [World.size_alloc, World.size_setCell, World.size_drew]; omega)); have hb6l1 : y1 < (w4).heap.size := (by omega); have hb6c2 := fun o => below_at hb6 (ax) o (by first | omega | (simp only [World.size_alloc, World.size_setCell, World.size_drew]; omega)); have hb6f2 := fun o => below_fr hb6 (ax) o (by first | omega | (simp only [World.size_alloc, World.size_setCell, World.size_drew]; omega)); have hb6l2 : ax < (w4).heap.size := (by omega); have hb6c3 := fun o => below_at hb6 (bx) o (by first | omega | (simp only [World.size_alloc, World.size_setCell, World.size_drew]; omega)); have hb6f3 := fun o => below_fr hb6 (bx) o (by first | omega | (simp only [World.size_alloc, World.size_setCell, World.size_drew]; omega)); have hb6l3 : bx < (w4).heap.size := (by omega)) | fail)
          all_goals
            have hb9 : Below wr.heap.size wr w4 := (by have z0 := Below.size hb4; have z1 := Below.size hb6; (try simp only [World.size_alloc, World.size_setCell, World.size_drew, size_drewN'] at z0 z1 ⊢; skip); repeat' (first | (with_reducible exact Below.refl _ _) | (with_reducible assumption) | (with_reducible refine Below.alloc ?_ ?_ _) | (with_reducible refine Below.drew ?_) | (with_reducible refine below_drewN ?_ _) | (with_reducible refine Below.setCell ?_ ?_ _) | (with_reducible refine Below.trans ?_ (Below.mono (by with_reducible assumption) ?_)) | omega | (simp only [World.size_alloc, World.size_setCell, World.size_drew, size_drewN']; omega) | go_size))
            have hb10 := hb2.trans (hb9.mono hb2z)
            go_wp2
            go_roundw
            case rel => exact ⟨k + 1, by omega, by go_num, (by have z0 := Below.size hb10; (try simp only [World.size_alloc, World.size_setCell, World.size_drew, size_drewN'] at z0 ⊢; skip); repeat' (first | (with_reducible exact Below.refl _ _) | (with_reducible assumption) | (with_reducible refine Below.alloc ?_ ?_ _) | (with_reducible refine Below.drew ?_) | (with_reducible refine below_drewN ?_ _) | (with_reducible refine Below.setCell ?_ ?_ _) | (with_reducible refine Below.trans ?_ (Below.mono (by with_reducible assumption) ?_)) | omega | (simp only [World.size_alloc, World.size_setCell, World.size_drew, size_drewN']; omega) | go_size))⟩
            case measure => simp [intOf]; omega
        · have : k = li := by omega
          subst this
          go_wp2
          go_roundw
          case rel => exact ⟨i + 1, by omega, by go_num, hb2⟩
          case measure => simp [intOf]; omega
    · have : i = n := by omega
      subst this
      go_wp2
      go_ret
      exact ⟨rfl, hb⟩
end Go.Proofs.YtnljncncnohncaaDoor
