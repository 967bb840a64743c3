/- Contracts of functions and lemmas, used by the proofs of the given statements. No condition beyond those that each lemma names. -/
import Derived.Test.YtedopalmfakeaaaCubeW7
namespace Go.Proofs.Ytedopalmfakeaaa
open Go.RowKit
set_option linter.unusedSimpArgs false
set_option linter.unusedVariables false
set_option maxHeartbeats 1000000 in
theorem awake12 (w : World) : Calls Try.prog 18 #[] w fun e w' => e = .returned (.bool true) ∧ Below w.heap.size w w' := by
  have hm : miN (1, 0) (6, 0) = [(1, 2), (3, 4)] := by decide +kernel
  have hc : csN (3, 0) (4, 1) = (6, 0) ∧ csB (3, 0) (4, 1) = true := by decide +kernel
  have k1 := minusX_ok (1, 0) (6, 0) (by unfold okN; decide) (by unfold okN; decide)
  have k2 := cons_ok (3, 0) (4, 1) (by unfold okN; decide) (by unfold okN; decide)
  rw [hm] at k1
  rw [hc.1, hc.2] at k2
  have K1 := Lib.hid k1
  have K2 := Lib.hid k2
  clear k1 k2 hm hc
  go_enter Try.func18, Try.ntmps18
  go_wp2_with fail
  refine (K1.out _).mono ?_
  rintro e w1 ⟨A, c, rfl, own1, hb1⟩
  go_wp2_with fail
  refine (K2.out _).mono ?_
  rintro e w2 ⟨rfl, hb2⟩
  go_wp2_with fail
  have own2 := own1.below hb2
  refine (same_any A _ [(1, 2), (3, 4)] [(1, 2), (3, 4)] c 2 _ (by decide) (by decide) (own2.rd.on (by (skip); repeat' (first | (with_reducible exact Below.refl _ _) | (with_reducible assumption) | (with_reducible refine Below.alloc ?_ ?_ _) | (with_reducible refine Below.drew ?_) | (with_reducible refine below_drewN ?_ _) | (with_reducible refine Below.setCell ?_ ?_ _) | (with_reducible refine Below.trans ?_ (Below.mono (by with_reducible assumption) ?_)) | omega | (simp only [World.size_alloc, World.size_setCell, World.size_drew, size_drewN']; omega) | go_size)) (by simp; omega)) (rdc_new2 _ _ (1, 2) (3, 4) (by simp) _)).mono ?_
  rintro e w3 ⟨rfl, hb3⟩
  go_wp2
  go_ret
  exact ⟨rfl, (by have z0 := Below.size hb1; have z1 := Below.size hb2; have z2 := Below.size hb3; (try simp only [World.size_alloc, World.size_setCell, World.size_drew, size_drewN'] at z0 z1 z2 ⊢; skip); repeat' (first | (with_reducible exact Below.refl _ _) | (with_reducible assumption) | (with_reducible refine Below.alloc ?_ ?_ _) | (with_reducible refine Below.drew ?_) | (with_reducible refine below_drewN ?_ _) | (with_reducible refine Below.setCell ?_ ?_ _) | (with_reducible refine Below.trans ?_ (Below.mono (by with_reducible assumption) ?_)) | omega | (simp only [World.size_alloc, World.size_setCell, World.size_drew, size_drewN']; omega) | go_size))⟩
set_option maxHeartbeats 1000000 in
theorem cubeChecks_law (c : Cb) (s : Int) (w : World) : Calls Try.prog 3 #[cbv c, .int .i64 s] w fun e w' => e = .returned (.bool true) ∧ Below w.heap.size w w' := by
  by_cases h : chk c = 0
  · obtain ⟨d, hd, rfl⟩ := chk_ok h
    have HH := Lib.hid h
    clear h
    by_cases hs : maskB s = true
    · obtain ⟨m, rfl, hm⟩ := maskB_nat hs
      go_enter Try.func3, Try.ntmps3
      go_wp2_with (first | (go_at_call 18; (with_reducible refine (awake12 _).mono ?_); rintro e w1 ⟨rfl, hb1⟩; obtain ⟨hb1c, hb1f⟩ := bcell hb1; have hb1z := Below.size hb1; try simp only [World.size_alloc, World.size_setCell, World.size_drew] at hb1z) | ((go_at_call 19; (with_reducible refine (refCheck_any (zc d) _).mono ?_); rintro e w2 ⟨rfl, hb2⟩; rw [HH.out]; obtain ⟨hb2c, hb2f⟩ := bcell hb2; obtain ⟨hb2d, hb2e⟩ := bcellB hb2 hb1z; have hb2z := Nat.le_trans hb1z (lt_size hb2))) | (go_at_call 20; (with_reducible refine (holds_ok d m hd hm _).mono ?_); rintro e w3 ⟨rfl, hb3⟩; obtain ⟨hb3c, hb3f⟩ := bcell hb3; obtain ⟨hb3d, hb3e⟩ := bcellB hb3 hb2z; have hb3z := Nat.le_trans hb2z (lt_size hb3)) | (go_at_call 22; (with_reducible refine (check_ok d hd _).mono ?_); rintro e w4 ⟨rfl, hb4⟩; obtain ⟨hb4c, hb4f⟩ := bcell hb4; obtain ⟨hb4d, hb4e⟩ := bcellB hb4 hb3z; have hb4z := Nat.le_trans hb3z (lt_size hb4)) | (go_at_call 21; (with_reducible refine (num_0 _).mono ?_); rintro e _ ⟨rfl, rfl⟩) | (go_at_call 23; (with_reducible refine (refMask_any (m : Int) _).mono ?_); rintro e _ ⟨rfl, rfl⟩) | (go_at_call 24; (with_reducible refine (refHolds_ok d m hd hm _).mono ?_); rintro e w5 ⟨rfl, hb5⟩; obtain ⟨hb5c, hb5f⟩ := bcell hb5; obtain ⟨hb5d, hb5e⟩ := bcellB hb5 hb4z; have hb5z := Nat.le_trans hb4z (lt_size hb5)))
      go_ret
      exact ⟨by simp, (by have z0 := Below.size hb1; have z1 := Below.size hb2; have z2 := Below.size hb3; have z3 := Below.size hb4; have z4 := Below.size hb5; (try simp only [World.size_alloc, World.size_setCell, World.size_drew, size_drewN'] at z0 z1 z2 z3 z4 ⊢; skip); repeat' (first | (with_reducible exact Below.refl _ _) | (with_reducible assumption) | (with_reducible refine Below.alloc ?_ ?_ _) | (with_reducible refine Below.drew ?_) | (with_reducible refine below_drewN ?_ _) | (with_reducible refine Below.setCell ?_ ?_ _) | (with_reducible refine Below.trans ?_ (Below.mono (by with_reducible assumption) ?_)) | omega | (simp only [World.size_alloc, World.size_setCell, World.size_drew, size_drewN']; omega) | go_size))⟩
    · have hs' : maskB s = false := by simpa using hs
      go_enter Try.func3, Try.ntmps3
      go_wp2_with (first | (go_at_call 18; (with_reducible refine (awake12 _).mono ?_); rintro e w1 ⟨rfl, hb1⟩; obtain ⟨hb1c, hb1f⟩ := bcell hb1; have hb1z := Below.size hb1; try simp only [World.size_alloc, World.size_setCell, World.size_drew] at hb1z) | ((go_at_call 19; (with_reducible refine (refCheck_any (zc d) _).mono ?_); rintro e w2 ⟨rfl, hb2⟩; rw [HH.out]; obtain ⟨hb2c, hb2f⟩ := bcell hb2; obtain ⟨hb2d, hb2e⟩ := bcellB hb2 hb1z; have hb2z := Nat.le_trans hb1z (lt_size hb2))) | (go_at_call 20; (with_reducible refine (holds_out d s hd hs' _).mono ?_); rintro e w3 ⟨rfl, hb3⟩; obtain ⟨hb3c, hb3f⟩ := bcell hb3; obtain ⟨hb3d, hb3e⟩ := bcellB hb3 hb2z; have hb3z := Nat.le_trans hb2z (lt_size hb3)) | (go_at_call 22; (with_reducible refine (check_ok d hd _).mono ?_); rintro e w4 ⟨rfl, hb4⟩; obtain ⟨hb4c, hb4f⟩ := bcell hb4; obtain ⟨hb4d, hb4e⟩ := bcellB hb4 hb3z; have hb4z := Nat.le_trans hb3z (lt_size hb4)) | (go_at_call 21; (with_reducible refine (num_0 _).mono ?_); rintro e _ ⟨rfl, rfl⟩) | (go_at_call 21; (with_reducible refine (num_n _ _).mono ?_); rintro e _ ⟨rfl, rfl⟩) | (go_at_call 23; (with_reducible refine (refMask_any s _).mono ?_); rintro e _ ⟨rfl, rfl⟩))
      go_ret
      exact ⟨rfl, (by have z0 := Below.size hb1; have z1 := Below.size hb2; have z2 := Below.size hb3; have z3 := Below.size hb4; (try simp only [World.size_alloc, World.size_setCell, World.size_drew, size_drewN'] at z0 z1 z2 z3 ⊢; skip); repeat' (first | (with_reducible exact Below.refl _ _) | (with_reducible assumption) | (with_reducible refine Below.alloc ?_ ?_ _) | (with_reducible refine Below.drew ?_) | (with_reducible refine below_drewN ?_ _) | (with_reducible refine Below.setCell ?_ ?_ _) | (with_reducible refine Below.trans ?_ (Below.mono (by with_reducible assumption) ?_)) | omega | (simp only [World.size_alloc, World.size_setCell, World.size_drew, size_drewN']; omega) | go_size))⟩
  · have HH := Lib.hid h
    have h0 : (chk c == 0) = false := by simpa using h
    have h1 : (chk c != 0) = true := by rw [bne_iff_ne]; exact h
    clear h
    go_enter Try.func3, Try.ntmps3
    go_wp2_with (first | (go_at_call 18; (with_reducible refine (awake12 _).mono ?_); rintro e w1 ⟨rfl, hb1⟩; obtain ⟨hb1c, hb1f⟩ := bcell hb1; have hb1z := Below.size hb1; try simp only [World.size_alloc, World.size_setCell, World.size_drew] at hb1z) | (go_at_call 19; (with_reducible refine (refCheck_any c _).mono ?_); rintro e w2 ⟨rfl, hb2⟩; obtain ⟨hb2c, hb2f⟩ := bcell hb2; obtain ⟨hb2d, hb2e⟩ := bcellB hb2 hb1z; have hb2z := Nat.le_trans hb1z (lt_size hb2)) | (go_at_call 20; (with_reducible refine (holds_bad c s HH.out _).mono ?_); rintro e w3 ⟨rfl, hb3⟩; obtain ⟨hb3c, hb3f⟩ := bcell hb3; obtain ⟨hb3d, hb3e⟩ := bcellB hb3 hb2z; have hb3z := Nat.le_trans hb2z (lt_size hb3)) | (go_at_call 22; (with_reducible refine (check_no c HH.out _).mono ?_); rintro e w4 ⟨rfl, hb4⟩; obtain ⟨hb4c, hb4f⟩ := bcell hb4; obtain ⟨hb4d, hb4e⟩ := bcellB hb4 hb3z; have hb4z := Nat.le_trans hb3z (lt_size hb4)) | (go_at_call 21; (with_reducible refine (num_n _ _).mono ?_); rintro e _ ⟨rfl, rfl⟩))
    go_ret
    exact ⟨by simp, (by have z0 := Below.size hb1; have z1 := Below.size hb2; have z2 := Below.size hb3; have z3 := Below.size hb4; (try simp only [World.size_alloc, World.size_setCell, World.size_drew, size_drewN'] at z0 z1 z2 z3 ⊢; skip); repeat' (first | (with_reducible exact Below.refl _ _) | (with_reducible assumption) | (with_reducible refine Below.alloc ?_ ?_ _) | (with_reducible refine Below.drew ?_) | (with_reducible refine below_drewN ?_ _) | (with_reducible refine Below.setCell ?_ ?_ _) | (with_reducible refine Below.trans ?_ (Below.mono (by with_reducible assumption) ?_)) | omega | (simp only [World.size_alloc, World.size_setCell, World.size_drew, size_drewN']; omega) | go_size))⟩
end Go.Proofs.Ytedopalmfakeaaa
