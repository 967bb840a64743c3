/- Contracts of functions and lemmas, used by the proofs of the given statements. No condition beyond those that each lemma names. -/
import Derived.Test.YtedopalmfakeaaaCubeL3
namespace Go.Proofs.Ytedopalmfakeaaa
open Go.RowKit
set_option linter.unusedSimpArgs false
set_option linter.unusedVariables false
set_option maxRecDepth 20000
set_option maxHeartbeats 1000000 in
theorem cubeAgrees_bad (a b : Cb) (s : Int) (h : chk2 a b ≠ 0) (w : World) : Calls Try.prog 6 #[cbv a, cbv b, .int .i64 s] w fun e w' => e = .returned (.bool true) ∧ Below w.heap.size w w' := by
  have h1 : (chk2 a b != 0) = true := by rw [bne_iff_ne]; exact h
  clear h
  go_enter Try.func6, Try.ntmps6
  go_wp2_with fail
  refine (awake12 _).mono ?_
  rintro e w1 ⟨rfl, hb1⟩
  have z1 := fun o => below_at hb1 w.heap.size o (by simp only [World.size_alloc]; omega)
  have z2 := fun o => below_at hb1 (w.heap.size + 1) o (by simp only [World.size_alloc]; omega)
  have hb1z := Below.size hb1
  simp only [World.size_alloc] at hb1z
  go_wp2_with (first | (go_at_call 25; (with_reducible refine (both_any a b _).mono ?_); rintro e w2 ⟨rfl, hb2⟩; have hb2z := Below.size hb2; (try simp only [World.size_alloc, World.size_setCell, World.size_drew] at hb2z); have hb2c0 := fun o => below_at hb2 (w.heap.size) o (by first | omega | (simp only [World.size_alloc, World.size_setCell, World.size_drew]; omega)); have hb2f0 := fun o => below_fr hb2 (w.heap.size) o (by first | omega | (simp only [World.size_alloc, World.size_setCell, World.size_drew]; omega)); have hb2l0 : w.heap.size < (w2).heap.size := (by omega); have hb2c1 := fun o => below_at hb2 (w.heap.size + 1) o (by first | omega | (simp only [World.size_alloc, World.size_setCell, World.size_drew]; omega)); have hb2f1 := fun o => below_fr hb2 (w.heap.size + 1) o (by first | omega | (simp only [World.size_alloc, World.size_setCell, World.size_drew]; omega)); have hb2l1 : w.heap.size + 1 < (w2).heap.size := (by omega)) | fail)
  refine (awake12 _).mono ?_
  rintro e w3 ⟨rfl, hb3⟩
  go_wp2
  go_ret
  exact ⟨rfl, (by have z0 := Below.size hb1; have z1 := Below.size hb2; have z2 := Below.size hb3; (try simp only [World.size_alloc, World.size_setCell, World.size_drew] at z0 z1 z2 ⊢; skip); repeat' (first | (with_reducible exact Below.refl _ _) | (with_reducible assumption) | (with_reducible refine Below.alloc ?_ ?_ _) | (with_reducible refine Below.drew ?_) | (with_reducible refine below_drewN ?_ _) | (with_reducible refine Below.setCell ?_ ?_ _) | (with_reducible refine Below.trans ?_ (Below.mono (by with_reducible assumption) ?_)) | go_size))⟩
set_option maxHeartbeats 1000000 in
theorem cubeAgrees_out (a b : Cn) (s : Int) (ha : okN a) (hb : okN b) (hs : maskB s = false) (w : World) : Calls Try.prog 6 #[cbv (zc a), cbv (zc b), .int .i64 s] w fun e w' => e = .returned (.bool true) ∧ Below w.heap.size w w' := by
  go_enter Try.func6, Try.ntmps6
  go_wp2_with fail
  refine (awake12 _).mono ?_
  rintro e w1 ⟨rfl, hb1⟩
  have z1 := fun o => below_at hb1 w.heap.size o (by simp only [World.size_alloc]; omega)
  have z2 := fun o => below_at hb1 (w.heap.size + 1) o (by simp only [World.size_alloc]; omega)
  have hb1z := Below.size hb1
  simp only [World.size_alloc] at hb1z
  go_wp2_with (first | (go_at_call 25; (with_reducible refine (bothZ a b ha hb _).mono ?_); rintro e w2 ⟨rfl, hb2⟩; have hb2z := Below.size hb2; (try simp only [World.size_alloc, World.size_setCell, World.size_drew] at hb2z); have hb2c0 := fun o => below_at hb2 (w.heap.size) o (by first | omega | (simp only [World.size_alloc, World.size_setCell, World.size_drew]; omega)); have hb2f0 := fun o => below_fr hb2 (w.heap.size) o (by first | omega | (simp only [World.size_alloc, World.size_setCell, World.size_drew]; omega)); have hb2l0 : w.heap.size < (w2).heap.size := (by omega); have hb2c1 := fun o => below_at hb2 (w.heap.size + 1) o (by first | omega | (simp only [World.size_alloc, World.size_setCell, World.size_drew]; omega)); have hb2f1 := fun o => below_fr hb2 (w.heap.size + 1) o (by first | omega | (simp only [World.size_alloc, World.size_setCell, World.size_drew]; omega)); have hb2l1 : w.heap.size + 1 < (w2).heap.size := (by omega)) | (go_at_call 23; (with_reducible refine (refMask_any s _).mono ?_); rintro e _ ⟨rfl, rfl⟩) | fail)
  refine (awake12 _).mono ?_
  rintro e w3 ⟨rfl, hb3⟩
  go_wp2
  go_ret
  exact ⟨rfl, (by have z0 := Below.size hb1; have z1 := Below.size hb2; have z2 := Below.size hb3; (try simp only [World.size_alloc, World.size_setCell, World.size_drew] at z0 z1 z2 ⊢; skip); repeat' (first | (with_reducible exact Below.refl _ _) | (with_reducible assumption) | (with_reducible refine Below.alloc ?_ ?_ _) | (with_reducible refine Below.drew ?_) | (with_reducible refine below_drewN ?_ _) | (with_reducible refine Below.setCell ?_ ?_ _) | (with_reducible refine Below.trans ?_ (Below.mono (by with_reducible assumption) ?_)) | go_size))⟩
def agB (S C X Y O M I : Bool) : Bool := (!S || !C || X || Y) && ((O && M) == (X && Y)) && (!I || !X || Y)
theorem agB_true (a b : Cn) (s : Nat) (ha : okN a) (hb : okN b) : agB (csB a b) (hoN (csN a b) s) (hoN a s) (hoN b s) (!apN a b) (hoN (meN a b) s) (wiN a b) = true := by
  unfold agB
  rw [meet_holds]
  have h1 := @cons_holds a b ha hb
  have h2 := @hoN_within a b s
  cases hS : csB a b <;> cases hC : hoN (csN a b) s <;> cases hX : hoN a s <;> cases hY : hoN b s <;> cases hI : wiN a b <;> first | rfl | (exact absurd (h2 hI hX) (by simp [hY])) | (exact absurd (h1 hS hC) (by simp [hX, hY]))
set_option maxHeartbeats 4000000 in
theorem cubeAgrees_ok (a b : Cn) (s : Nat) (ha : okN a) (hb : okN b) (hs : s < 16777216) (w : World) : Calls Try.prog 6 #[cbv (zc a), cbv (zc b), .int .i64 (s : Int)] w fun e w' => e = .returned (.bool true) ∧ Below w.heap.size w w' := by
  have hm : maskB (s : Int) = true := maskB_t (by omega) (by omega)
  have HB := Lib.hid (agB_true a b s ha hb)
  have k1 := cons_ok a b ha hb
  have k2 := meet_ok a b ha hb
  have k3 := implies_ok a b ha hb
  have k4 := refHolds_ok (csN a b) s (csN_ok ha hb) hs
  have k5 := refHolds_ok (meN a b) s (meN_ok ha hb) hs
  have k6 := holds_ok a s ha hs
  have k7 := holds_ok b s hb hs
  generalize csB a b = S at *
  generalize hoN (csN a b) s = C at *
  generalize csN a b = cs at *
  generalize (!apN a b) = O at *
  generalize hoN (meN a b) s = M at *
  generalize meN a b = me at *
  generalize wiN a b = I at *
  generalize hoN a s = X at *
  generalize hoN b s = Y at *
  have K1 := Lib.hid k1
  have K2 := Lib.hid k2
  have K3 := Lib.hid k3
  have K4 := Lib.hid k4
  have K5 := Lib.hid k5
  have K6 := Lib.hid k6
  have K7 := Lib.hid k7
  clear k1 k2 k3 k4 k5 k6 k7
  go_enter Try.func6, Try.ntmps6
  go_wp2_with (first | (go_at_call 18; (with_reducible refine (awake12 _).mono ?_); rintro e w1 ⟨rfl, hb1⟩; have hb1z := Below.size hb1; (try simp only [World.size_alloc, World.size_setCell, World.size_drew] at hb1z); have hb1c0 := fun o => below_at hb1 (w.heap.size) o (by first | omega | (simp only [World.size_alloc, World.size_setCell, World.size_drew]; omega)); have hb1f0 := fun o => below_fr hb1 (w.heap.size) o (by first | omega | (simp only [World.size_alloc, World.size_setCell, World.size_drew]; omega)); have hb1l0 : w.heap.size < (w1).heap.size := (by omega); have hb1c1 := fun o => below_at hb1 (w.heap.size + 1) o (by first | omega | (simp only [World.size_alloc, World.size_setCell, World.size_drew]; omega)); have hb1f1 := fun o => below_fr hb1 (w.heap.size + 1) o (by first | omega | (simp only [World.size_alloc, World.size_setCell, World.size_drew]; omega)); have hb1l1 : w.heap.size + 1 < (w1).heap.size := (by omega)) | (go_at_call 25; (with_reducible refine (bothZ a b ha hb _).mono ?_); rintro e w2 ⟨rfl, hb2⟩; have hb2z := Below.size hb2; (try simp only [World.size_alloc, World.size_setCell, World.size_drew] at hb2z); have hb2c0 := fun o => below_at hb2 (w.heap.size) o (by first | omega | (simp only [World.size_alloc, World.size_setCell, World.size_drew]; omega)); have hb2f0 := fun o => below_fr hb2 (w.heap.size) o (by first | omega | (simp only [World.size_alloc, World.size_setCell, World.size_drew]; omega)); have hb2l0 : w.heap.size < (w2).heap.size := (by omega); have hb2c1 := fun o => below_at hb2 (w.heap.size + 1) o (by first | omega | (simp only [World.size_alloc, World.size_setCell, World.size_drew]; omega)); have hb2f1 := fun o => below_fr hb2 (w.heap.size + 1) o (by first | omega | (simp only [World.size_alloc, World.size_setCell, World.size_drew]; omega)); have hb2l1 : w.heap.size + 1 < (w2).heap.size := (by omega)) | (go_at_call 23; (with_reducible refine (refMask_any (s : Int) _).mono ?_); rintro e _ ⟨rfl, rfl⟩) | (go_at_call 30; (with_reducible refine (K1.out _).mono ?_); rintro e w3 ⟨rfl, hb3⟩; have hb3z := Below.size hb3; (try simp only [World.size_alloc, World.size_setCell, World.size_drew] at hb3z); have hb3c0 := fun o => below_at hb3 (w.heap.size) o (by first | omega | (simp only [World.size_alloc, World.size_setCell, World.size_drew]; omega)); have hb3f0 := fun o => below_fr hb3 (w.heap.size) o (by first | omega | (simp only [World.size_alloc, World.size_setCell, World.size_drew]; omega)); have hb3l0 : w.heap.size < (w3).heap.size := (by omega); have hb3c1 := fun o => below_at hb3 (w.heap.size + 1) o (by first | omega | (simp only [World.size_alloc, World.size_setCell, World.size_drew]; omega)); have hb3f1 := fun o => below_fr hb3 (w.heap.size + 1) o (by first | omega | (simp only [World.size_alloc, World.size_setCell, World.size_drew]; omega)); have hb3l1 : w.heap.size + 1 < (w3).heap.size := (by omega)) | (go_at_call 29; (with_reducible refine (K2.out _).mono ?_); rintro e w4 ⟨rfl, hb4⟩; have hb4z := Below.size hb4; (try simp only [World.size_alloc, World.size_setCell, World.size_drew] at hb4z); have hb4c0 := fun o => below_at hb4 (w.heap.size) o (by first | omega | (simp only [World.size_alloc, World.size_setCell, World.size_drew]; omega)); have hb4f0 := fun o => below_fr hb4 (w.heap.size) o (by first | omega | (simp only [World.size_alloc, World.size_setCell, World.size_drew]; omega)); have hb4l0 : w.heap.size < (w4).heap.size := (by omega); have hb4c1 := fun o => below_at hb4 (w.heap.size + 1) o (by first | omega | (simp only [World.size_alloc, World.size_setCell, World.size_drew]; omega)); have hb4f1 := fun o => below_fr hb4 (w.heap.size + 1) o (by first | omega | (simp only [World.size_alloc, World.size_setCell, World.size_drew]; omega)); have hb4l1 : w.heap.size + 1 < (w4).heap.size := (by omega); have hb4c2 := fun o => below_at hb4 (w3.heap.size) o (by first | omega | (simp only [World.size_alloc, World.size_setCell, World.size_drew]; omega)); have hb4f2 := fun o => below_fr hb4 (w3.heap.size) o (by first | omega | (simp only [World.size_alloc, World.size_setCell, World.size_drew]; omega)); have hb4l2 : w3.heap.size < (w4).heap.size := (by omega)) | (go_at_call 28; (with_reducible refine (K3.out _).mono ?_); rintro e w5 ⟨rfl, hb5⟩; have hb5z := Below.size hb5; (try simp only [World.size_alloc, World.size_setCell, World.size_drew] at hb5z); have hb5c0 := fun o => below_at hb5 (w.heap.size) o (by first | omega | (simp only [World.size_alloc, World.size_setCell, World.size_drew]; omega)); have hb5f0 := fun o => below_fr hb5 (w.heap.size) o (by first | omega | (simp only [World.size_alloc, World.size_setCell, World.size_drew]; omega)); have hb5l0 : w.heap.size < (w5).heap.size := (by omega); have hb5c1 := fun o => below_at hb5 (w.heap.size + 1) o (by first | omega | (simp only [World.size_alloc, World.size_setCell, World.size_drew]; omega)); have hb5f1 := fun o => below_fr hb5 (w.heap.size + 1) o (by first | omega | (simp only [World.size_alloc, World.size_setCell, World.size_drew]; omega)); have hb5l1 : w.heap.size + 1 < (w5).heap.size := (by omega); have hb5c2 := fun o => below_at hb5 (w3.heap.size) o (by first | omega | (simp only [World.size_alloc, World.size_setCell, World.size_drew]; omega)); have hb5f2 := fun o => below_fr hb5 (w3.heap.size) o (by first | omega | (simp only [World.size_alloc, World.size_setCell, World.size_drew]; omega)); have hb5l2 : w3.heap.size < (w5).heap.size := (by omega); have hb5c3 := fun o => below_at hb5 (w4.heap.size) o (by first | omega | (simp only [World.size_alloc, World.size_setCell, World.size_drew]; omega)); have hb5f3 := fun o => below_fr hb5 (w4.heap.size) o (by first | omega | (simp only [World.size_alloc, World.size_setCell, World.size_drew]; omega)); have hb5l3 : w4.heap.size < (w5).heap.size := (by omega)) | fail)
  refine (K6.out _).mono ?_
  rintro e w6 ⟨rfl, hb6⟩
  have y1 := fun o => below_at hb6 w.heap.size o (by omega)
  have y2 := fun o => below_at hb6 (w.heap.size + 1) o (by omega)
  have y3 := fun o => below_at hb6 w3.heap.size o (by omega)
  have y4 := fun o => below_at hb6 w4.heap.size o (by omega)
  have hb6z := Below.size hb6
  go_wp2_with fail
  refine (K7.out _).mono ?_
  rintro e w7 ⟨rfl, hb7⟩
  have x3 := fun o => below_at hb7 w3.heap.size o (by omega)
  have x4 := fun o => below_at hb7 w4.heap.size o (by omega)
  have hb7z := Below.size hb7
  clear K1 K2 K3 K6 K7
  cases S <;> cases O
  · cases C <;> cases X <;> cases Y <;> cases M <;> cases I <;> first | exact absurd HB.out (by decide) | skip
    all_goals clear HB
    all_goals
      go_wp2_with fail
      go_ret
      exact ⟨rfl, (by have z0 := Below.size hb1; have z1 := Below.size hb2; have z2 := Below.size hb3; have z3 := Below.size hb4; have z4 := Below.size hb5; have z5 := Below.size hb6; have z6 := Below.size hb7; (try simp only [World.size_alloc, World.size_setCell, World.size_drew] at z0 z1 z2 z3 z4 z5 z6 ⊢; skip); repeat' (first | (with_reducible exact Below.refl _ _) | (with_reducible assumption) | (with_reducible refine Below.alloc ?_ ?_ _) | (with_reducible refine Below.drew ?_) | (with_reducible refine below_drewN ?_ _) | (with_reducible refine Below.setCell ?_ ?_ _) | (with_reducible refine Below.trans ?_ (Below.mono (by with_reducible assumption) ?_)) | go_size))⟩
  · cases C <;> cases X <;> cases Y <;> cases M <;> cases I <;> first | exact absurd HB.out (by decide) | skip
    all_goals clear HB
    all_goals
      go_wp2_with (go_at_call 24; (with_reducible refine (K5.out _).mono ?_); rintro e w9 ⟨rfl, hb9⟩; have hb9z := Below.size hb9; (try simp only [World.size_alloc, World.size_setCell, World.size_drew] at hb9z))
      go_ret
      exact ⟨rfl, (by have z0 := Below.size hb1; have z1 := Below.size hb2; have z2 := Below.size hb3; have z3 := Below.size hb4; have z4 := Below.size hb5; have z5 := Below.size hb6; have z6 := Below.size hb7; have z7 := Below.size hb9; (try simp only [World.size_alloc, World.size_setCell, World.size_drew] at z0 z1 z2 z3 z4 z5 z6 z7 ⊢; skip); repeat' (first | (with_reducible exact Below.refl _ _) | (with_reducible assumption) | (with_reducible refine Below.alloc ?_ ?_ _) | (with_reducible refine Below.drew ?_) | (with_reducible refine below_drewN ?_ _) | (with_reducible refine Below.setCell ?_ ?_ _) | (with_reducible refine Below.trans ?_ (Below.mono (by with_reducible assumption) ?_)) | go_size))⟩
  · cases C <;> cases X <;> cases Y <;> cases M <;> cases I <;> first | exact absurd HB.out (by decide) | skip
    all_goals clear HB
    all_goals
      go_wp2_with (go_at_call 24; (with_reducible refine (K4.out _).mono ?_); rintro e w8 ⟨rfl, hb8⟩; have hb8z := Below.size hb8; (try simp only [World.size_alloc, World.size_setCell, World.size_drew] at hb8z); have hb8c0 := fun o => below_at hb8 (w4.heap.size) o (by first | omega | (simp only [World.size_alloc, World.size_setCell, World.size_drew]; omega)); have hb8f0 := fun o => below_fr hb8 (w4.heap.size) o (by first | omega | (simp only [World.size_alloc, World.size_setCell, World.size_drew]; omega)); have hb8l0 : w4.heap.size < (w8).heap.size := (by omega))
      go_ret
      exact ⟨rfl, (by have z0 := Below.size hb1; have z1 := Below.size hb2; have z2 := Below.size hb3; have z3 := Below.size hb4; have z4 := Below.size hb5; have z5 := Below.size hb6; have z6 := Below.size hb7; have z7 := Below.size hb8; (try simp only [World.size_alloc, World.size_setCell, World.size_drew] at z0 z1 z2 z3 z4 z5 z6 z7 ⊢; skip); repeat' (first | (with_reducible exact Below.refl _ _) | (with_reducible assumption) | (with_reducible refine Below.alloc ?_ ?_ _) | (with_reducible refine Below.drew ?_) | (with_reducible refine below_drewN ?_ _) | (with_reducible refine Below.setCell ?_ ?_ _) | (with_reducible refine Below.trans ?_ (Below.mono (by with_reducible assumption) ?_)) | go_size))⟩
  · cases C <;> cases X <;> cases Y <;> cases M <;> cases I <;> first | exact absurd HB.out (by decide) | skip
    all_goals clear HB
    all_goals
      go_wp2_with fail
      refine (K4.out _).mono ?_
      rintro e w8 ⟨rfl, hb8⟩
      have x4 := fun o => below_at hb8 w4.heap.size o (by omega)
      have hb8z := Below.size hb8
      go_wp2_with fail
      refine (K5.out _).mono ?_
      rintro e w9 ⟨rfl, hb9⟩
      go_wp2_with fail
      go_ret
      exact ⟨rfl, (by have z0 := Below.size hb1; have z1 := Below.size hb2; have z2 := Below.size hb3; have z3 := Below.size hb4; have z4 := Below.size hb5; have z5 := Below.size hb6; have z6 := Below.size hb7; have z7 := Below.size hb8; have z8 := Below.size hb9; (try simp only [World.size_alloc, World.size_setCell, World.size_drew] at z0 z1 z2 z3 z4 z5 z6 z7 z8 ⊢; skip); repeat' (first | (with_reducible exact Below.refl _ _) | (with_reducible assumption) | (with_reducible refine Below.alloc ?_ ?_ _) | (with_reducible refine Below.drew ?_) | (with_reducible refine below_drewN ?_ _) | (with_reducible refine Below.setCell ?_ ?_ _) | (with_reducible refine Below.trans ?_ (Below.mono (by with_reducible assumption) ?_)) | go_size))⟩
theorem cubeAgrees_law (a b : Cb) (s : Int) (w : World) : Calls Try.prog 6 #[cbv a, cbv b, .int .i64 s] w fun e w' => e = .returned (.bool true) ∧ Below w.heap.size w w' := by
  by_cases h : chk2 a b = 0
  · obtain ⟨x, y, hx, hy, rfl, rfl⟩ := chk2_ok h
    by_cases hs : maskB s = true
    · obtain ⟨m, rfl, hm⟩ := maskB_nat hs
      exact cubeAgrees_ok x y m hx hy hm w
    · exact cubeAgrees_out x y s hx hy (by simpa using hs) w
  · exact cubeAgrees_bad a b s h w
end Go.Proofs.Ytedopalmfakeaaa
