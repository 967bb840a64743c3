/- Contracts of functions and lemmas, used by the proofs of the given statements. No condition beyond those that each lemma names. -/
import Derived.Test.YtedopalmfakeaaaCubeL1
import Derived.Test.YtedopalmfakeaaaCubePl
namespace Go.Proofs.Ytedopalmfakeaaa
open Go.RowKit
set_option linter.unusedSimpArgs false
set_option linter.unusedVariables false
set_option maxRecDepth 20000
theorem bothZ (x y : Cn) (hx : okN x) (hy : okN y) (w : World) : Calls Try.prog 25 #[cbv (zc x), cbv (zc y)] w fun e w' => e = .returned (.int .i64 0) ∧ Below w.heap.size w w' :=
  (both_any (zc x) (zc y) w).mono fun e w' ⟨h1, h2⟩ => ⟨by rw [h1, chk2_of_ok hx hy], h2⟩
set_option maxHeartbeats 1000000 in
theorem cubeSplits_bad (a b : Cb) (s : Int) (h : chk2 a b ≠ 0) (w : World) : Calls Try.prog 4 #[cbv a, cbv b, .int .i64 s] w fun e w' => e = .returned (.bool true) ∧ Below w.heap.size w w' := by
  have h1 : (chk2 a b != 0) = true := by rw [bne_iff_ne]; exact h
  clear h
  go_enter Try.func4, Try.ntmps4
  go_wp2_with (first | (go_at_call 25; (with_reducible refine (both_any a b _).mono ?_); rintro e w2 ⟨rfl, hb2⟩; have hb2z := Below.size hb2; (try simp only [World.size_alloc, World.size_setCell, World.size_drew] at hb2z); have hb2c0 := fun o => below_at hb2 (w.heap.size) o (by first | omega | (simp only [World.size_alloc, World.size_setCell, World.size_drew]; omega)); have hb2f0 := fun o => below_fr hb2 (w.heap.size) o (by first | omega | (simp only [World.size_alloc, World.size_setCell, World.size_drew]; omega)); have hb2l0 : w.heap.size < (w2).heap.size := (by omega); have hb2c1 := fun o => below_at hb2 (w.heap.size + 1) o (by first | omega | (simp only [World.size_alloc, World.size_setCell, World.size_drew]; omega)); have hb2f1 := fun o => below_fr hb2 (w.heap.size + 1) o (by first | omega | (simp only [World.size_alloc, World.size_setCell, World.size_drew]; omega)); have hb2l1 : w.heap.size + 1 < (w2).heap.size := (by omega)) | fail)
  refine (awake12 _).mono ?_
  rintro e w1 ⟨rfl, hb1⟩
  have z1 := fun o => below_at hb1 w.heap.size o (by simp only [World.size_alloc]; omega)
  have z2 := fun o => below_at hb1 (w.heap.size + 1) o (by simp only [World.size_alloc]; omega)
  have hb1z := Below.size hb1
  simp only [World.size_alloc] at hb1z
  go_wp2_with (first | (go_at_call 25; (with_reducible refine (both_any a b _).mono ?_); rintro e w2 ⟨rfl, hb2⟩; have hb2z := Below.size hb2; (try simp only [World.size_alloc, World.size_setCell, World.size_drew] at hb2z); have hb2c0 := fun o => below_at hb2 (w.heap.size) o (by first | omega | (simp only [World.size_alloc, World.size_setCell, World.size_drew]; omega)); have hb2f0 := fun o => below_fr hb2 (w.heap.size) o (by first | omega | (simp only [World.size_alloc, World.size_setCell, World.size_drew]; omega)); have hb2l0 : w.heap.size < (w2).heap.size := (by omega); have hb2c1 := fun o => below_at hb2 (w.heap.size + 1) o (by first | omega | (simp only [World.size_alloc, World.size_setCell, World.size_drew]; omega)); have hb2f1 := fun o => below_fr hb2 (w.heap.size + 1) o (by first | omega | (simp only [World.size_alloc, World.size_setCell, World.size_drew]; omega)); have hb2l1 : w.heap.size + 1 < (w2).heap.size := (by omega)) | fail)
  refine (awake12 _).mono ?_
  rintro e w3 ⟨rfl, hb3⟩
  go_wp2
  go_ret
  exact ⟨rfl, (by have z0 := Below.size hb1; have z1 := Below.size hb2; have z2 := Below.size hb3; (try simp only [World.size_alloc, World.size_setCell, World.size_drew] at z0 z1 z2 ⊢; skip); repeat' (first | (with_reducible exact Below.refl _ _) | (with_reducible assumption) | (with_reducible refine Below.alloc ?_ ?_ _) | (with_reducible refine Below.drew ?_) | (with_reducible refine below_drewN ?_ _) | (with_reducible refine Below.setCell ?_ ?_ _) | (with_reducible refine Below.trans ?_ (Below.mono (by with_reducible assumption) ?_)) | go_size))⟩
set_option maxHeartbeats 1000000 in
theorem cubeSplits_out (a b : Cn) (s : Int) (ha : okN a) (hb : okN b) (hs : maskB s = false) (w : World) : Calls Try.prog 4 #[cbv (zc a), cbv (zc b), .int .i64 s] w fun e w' => e = .returned (.bool true) ∧ Below w.heap.size w w' := by
  go_enter Try.func4, Try.ntmps4
  go_wp2_with fail
  refine (awake12 _).mono ?_
  rintro e w1 ⟨rfl, hb1⟩
  have z1 := fun o => below_at hb1 w.heap.size o (by simp only [World.size_alloc]; omega)
  have z2 := fun o => below_at hb1 (w.heap.size + 1) o (by simp only [World.size_alloc]; omega)
  have hb1z := Below.size hb1
  simp only [World.size_alloc] at hb1z
  go_wp2_with (first | (go_at_call 25; (with_reducible refine (bothZ a b ha hb _).mono ?_); rintro e w2 ⟨rfl, hb2⟩; have hb2z := Below.size hb2; (try simp only [World.size_alloc, World.size_setCell, World.size_drew] at hb2z); have hb2c0 := fun o => below_at hb2 (w.heap.size) o (by first | omega | (simp only [World.size_alloc, World.size_setCell, World.size_drew]; omega)); have hb2f0 := fun o => below_fr hb2 (w.heap.size) o (by first | omega | (simp only [World.size_alloc, World.size_setCell, World.size_drew]; omega)); have hb2l0 : w.heap.size < (w2).heap.size := (by omega); have hb2c1 := fun o => below_at hb2 (w.heap.size + 1) o (by first | omega | (simp only [World.size_alloc, World.size_setCell, World.size_drew]; omega)); have hb2f1 := fun o => below_fr hb2 (w.heap.size + 1) o (by first | omega | (simp only [World.size_alloc, World.size_setCell, World.size_drew]; omega)); have hb2l1 : w.heap.size + 1 < (w2).heap.size := (by omega)) | (go_at_call 23; (with_reducible refine (refMask_any s _).mono ?_); rintro e _ ⟨rfl, rfl⟩) | fail)
  refine (awake12 _).mono ?_
  rintro e w3 ⟨rfl, hb3⟩
  go_wp2
  go_ret
  exact ⟨rfl, (by have z0 := Below.size hb1; have z1 := Below.size hb2; have z2 := Below.size hb3; (try simp only [World.size_alloc, World.size_setCell, World.size_drew] at z0 z1 z2 ⊢; skip); repeat' (first | (with_reducible exact Below.refl _ _) | (with_reducible assumption) | (with_reducible refine Below.alloc ?_ ?_ _) | (with_reducible refine Below.drew ?_) | (with_reducible refine below_drewN ?_ _) | (with_reducible refine Below.setCell ?_ ?_ _) | (with_reducible refine Below.trans ?_ (Below.mono (by with_reducible assumption) ?_)) | go_size))⟩
set_option maxHeartbeats 1000000 in
theorem cubeSplits_ok (a b : Cn) (s : Nat) (ha : okN a) (hb : okN b) (hs : s < 16777216) (w : World) : Calls Try.prog 4 #[cbv (zc a), cbv (zc b), .int .i64 (s : Int)] w fun e w' => e = .returned (.bool true) ∧ Below w.heap.size w w' := by
  have hm : maskB (s : Int) = true := maskB_t (by omega) (by omega)
  have HI := Lib.hid (miN_in a b hb s)
  have HO := Lib.hid (miN_ok ha hb)
  have HL := Lib.hid (miN_le a b)
  by_cases hxa : hoN a s = true
  · by_cases hxb : hoN b s = true
    · have HJ : Hid (inN (miN a b) s = 0) := by show inN (miN a b) s = 0; rw [HI.out, hxa, hxb]; rfl
      clear HI
      go_enter Try.func4, Try.ntmps4
      go_wp2_with (first | (go_at_call 18; (with_reducible refine (awake12 _).mono ?_); rintro e w1 ⟨rfl, hb1⟩; have hb1z := Below.size hb1; (try simp only [World.size_alloc, World.size_setCell, World.size_drew] at hb1z); have hb1c0 := fun o => below_at hb1 (w.heap.size) o (by first | omega | (simp only [World.size_alloc, World.size_setCell, World.size_drew]; omega)); have hb1f0 := fun o => below_fr hb1 (w.heap.size) o (by first | omega | (simp only [World.size_alloc, World.size_setCell, World.size_drew]; omega)); have hb1l0 : w.heap.size < (w1).heap.size := (by omega); have hb1c1 := fun o => below_at hb1 (w.heap.size + 1) o (by first | omega | (simp only [World.size_alloc, World.size_setCell, World.size_drew]; omega)); have hb1f1 := fun o => below_fr hb1 (w.heap.size + 1) o (by first | omega | (simp only [World.size_alloc, World.size_setCell, World.size_drew]; omega)); have hb1l1 : w.heap.size + 1 < (w1).heap.size := (by omega)) | (go_at_call 25; (with_reducible refine (bothZ a b ha hb _).mono ?_); rintro e w2 ⟨rfl, hb2⟩; have hb2z := Below.size hb2; (try simp only [World.size_alloc, World.size_setCell, World.size_drew] at hb2z); have hb2c0 := fun o => below_at hb2 (w.heap.size) o (by first | omega | (simp only [World.size_alloc, World.size_setCell, World.size_drew]; omega)); have hb2f0 := fun o => below_fr hb2 (w.heap.size) o (by first | omega | (simp only [World.size_alloc, World.size_setCell, World.size_drew]; omega)); have hb2l0 : w.heap.size < (w2).heap.size := (by omega); have hb2c1 := fun o => below_at hb2 (w.heap.size + 1) o (by first | omega | (simp only [World.size_alloc, World.size_setCell, World.size_drew]; omega)); have hb2f1 := fun o => below_fr hb2 (w.heap.size + 1) o (by first | omega | (simp only [World.size_alloc, World.size_setCell, World.size_drew]; omega)); have hb2l1 : w.heap.size + 1 < (w2).heap.size := (by omega)) | (go_at_call 23; (with_reducible refine (refMask_any (s : Int) _).mono ?_); rintro e _ ⟨rfl, rfl⟩) | (go_at_call 26; (with_reducible refine (minusX_ok a b ha hb _).mono ?_); rintro e w3 ⟨A3, c3, rfl, own3, hb3⟩; have hb3z := Below.size hb3; (try simp only [World.size_alloc, World.size_setCell, World.size_drew] at hb3z); have hb3c0 := fun o => below_at hb3 (w.heap.size) o (by first | omega | (simp only [World.size_alloc, World.size_setCell, World.size_drew]; omega)); have hb3f0 := fun o => below_fr hb3 (w.heap.size) o (by first | omega | (simp only [World.size_alloc, World.size_setCell, World.size_drew]; omega)); have hb3l0 : w.heap.size < (w3).heap.size := (by omega); have hb3c1 := fun o => below_at hb3 (w.heap.size + 1) o (by first | omega | (simp only [World.size_alloc, World.size_setCell, World.size_drew]; omega)); have hb3f1 := fun o => below_fr hb3 (w.heap.size + 1) o (by first | omega | (simp only [World.size_alloc, World.size_setCell, World.size_drew]; omega)); have hb3l1 : w.heap.size + 1 < (w3).heap.size := (by omega)) | fail)
      refine (holds_ok a s ha hs _).mono ?_
      rintro e w4 ⟨rfl, hb4⟩
      have y1 := fun o => below_at hb4 w.heap.size o (by omega)
      have y2 := fun o => below_at hb4 (w.heap.size + 1) o (by omega)
      have hb4z := Below.size hb4
      go_wp2_with fail
      refine (holds_ok b s hb hs _).mono ?_
      rintro e w5 ⟨rfl, hb5⟩
      go_wp2_with fail
      refine (in_any A3 (miN a b) c3 s _ _ rfl (by have := HL.out; omega) HO.out hs (own3.rd.on (by have z0 := Below.size hb4; have z1 := Below.size hb5; (try simp only [World.size_alloc, World.size_setCell, World.size_drew] at z0 z1 ⊢; skip); repeat' (first | (with_reducible exact Below.refl _ _) | (with_reducible assumption) | (with_reducible refine Below.alloc ?_ ?_ _) | (with_reducible refine Below.drew ?_) | (with_reducible refine below_drewN ?_ _) | (with_reducible refine Below.setCell ?_ ?_ _) | (with_reducible refine Below.trans ?_ (Below.mono (by with_reducible assumption) ?_)) | go_size)) (by have := hb4.size; have := hb5.size; omega))).mono ?_
      rintro e w6 ⟨rfl, hb6⟩
      rw [HJ.out]
      go_wp2
      go_ret
      exact ⟨rfl, (by have z0 := Below.size hb1; have z1 := Below.size hb2; have z2 := Below.size hb3; have z3 := Below.size hb4; have z4 := Below.size hb5; have z5 := Below.size hb6; (try simp only [World.size_alloc, World.size_setCell, World.size_drew] at z0 z1 z2 z3 z4 z5 ⊢; skip); repeat' (first | (with_reducible exact Below.refl _ _) | (with_reducible assumption) | (with_reducible refine Below.alloc ?_ ?_ _) | (with_reducible refine Below.drew ?_) | (with_reducible refine below_drewN ?_ _) | (with_reducible refine Below.setCell ?_ ?_ _) | (with_reducible refine Below.trans ?_ (Below.mono (by with_reducible assumption) ?_)) | go_size))⟩
    · have hxb' : hoN b s = false := by simpa using hxb
      have HJ : Hid (inN (miN a b) s = 1) := by show inN (miN a b) s = 1; rw [HI.out, hxa, hxb']; rfl
      clear HI
      go_enter Try.func4, Try.ntmps4
      go_wp2_with (first | (go_at_call 18; (with_reducible refine (awake12 _).mono ?_); rintro e w1 ⟨rfl, hb1⟩; have hb1z := Below.size hb1; (try simp only [World.size_alloc, World.size_setCell, World.size_drew] at hb1z); have hb1c0 := fun o => below_at hb1 (w.heap.size) o (by first | omega | (simp only [World.size_alloc, World.size_setCell, World.size_drew]; omega)); have hb1f0 := fun o => below_fr hb1 (w.heap.size) o (by first | omega | (simp only [World.size_alloc, World.size_setCell, World.size_drew]; omega)); have hb1l0 : w.heap.size < (w1).heap.size := (by omega); have hb1c1 := fun o => below_at hb1 (w.heap.size + 1) o (by first | omega | (simp only [World.size_alloc, World.size_setCell, World.size_drew]; omega)); have hb1f1 := fun o => below_fr hb1 (w.heap.size + 1) o (by first | omega | (simp only [World.size_alloc, World.size_setCell, World.size_drew]; omega)); have hb1l1 : w.heap.size + 1 < (w1).heap.size := (by omega)) | (go_at_call 25; (with_reducible refine (bothZ a b ha hb _).mono ?_); rintro e w2 ⟨rfl, hb2⟩; have hb2z := Below.size hb2; (try simp only [World.size_alloc, World.size_setCell, World.size_drew] at hb2z); have hb2c0 := fun o => below_at hb2 (w.heap.size) o (by first | omega | (simp only [World.size_alloc, World.size_setCell, World.size_drew]; omega)); have hb2f0 := fun o => below_fr hb2 (w.heap.size) o (by first | omega | (simp only [World.size_alloc, World.size_setCell, World.size_drew]; omega)); have hb2l0 : w.heap.size < (w2).heap.size := (by omega); have hb2c1 := fun o => below_at hb2 (w.heap.size + 1) o (by first | omega | (simp only [World.size_alloc, World.size_setCell, World.size_drew]; omega)); have hb2f1 := fun o => below_fr hb2 (w.heap.size + 1) o (by first | omega | (simp only [World.size_alloc, World.size_setCell, World.size_drew]; omega)); have hb2l1 : w.heap.size + 1 < (w2).heap.size := (by omega)) | (go_at_call 23; (with_reducible refine (refMask_any (s : Int) _).mono ?_); rintro e _ ⟨rfl, rfl⟩) | (go_at_call 26; (with_reducible refine (minusX_ok a b ha hb _).mono ?_); rintro e w3 ⟨A3, c3, rfl, own3, hb3⟩; have hb3z := Below.size hb3; (try simp only [World.size_alloc, World.size_setCell, World.size_drew] at hb3z); have hb3c0 := fun o => below_at hb3 (w.heap.size) o (by first | omega | (simp only [World.size_alloc, World.size_setCell, World.size_drew]; omega)); have hb3f0 := fun o => below_fr hb3 (w.heap.size) o (by first | omega | (simp only [World.size_alloc, World.size_setCell, World.size_drew]; omega)); have hb3l0 : w.heap.size < (w3).heap.size := (by omega); have hb3c1 := fun o => below_at hb3 (w.heap.size + 1) o (by first | omega | (simp only [World.size_alloc, World.size_setCell, World.size_drew]; omega)); have hb3f1 := fun o => below_fr hb3 (w.heap.size + 1) o (by first | omega | (simp only [World.size_alloc, World.size_setCell, World.size_drew]; omega)); have hb3l1 : w.heap.size + 1 < (w3).heap.size := (by omega)) | fail)
      refine (holds_ok a s ha hs _).mono ?_
      rintro e w4 ⟨rfl, hb4⟩
      have y1 := fun o => below_at hb4 w.heap.size o (by omega)
      have y2 := fun o => below_at hb4 (w.heap.size + 1) o (by omega)
      have hb4z := Below.size hb4
      go_wp2_with fail
      refine (holds_ok b s hb hs _).mono ?_
      rintro e w5 ⟨rfl, hb5⟩
      go_wp2_with fail
      refine (in_any A3 (miN a b) c3 s _ _ rfl (by have := HL.out; omega) HO.out hs (own3.rd.on (by have z0 := Below.size hb4; have z1 := Below.size hb5; (try simp only [World.size_alloc, World.size_setCell, World.size_drew] at z0 z1 ⊢; skip); repeat' (first | (with_reducible exact Below.refl _ _) | (with_reducible assumption) | (with_reducible refine Below.alloc ?_ ?_ _) | (with_reducible refine Below.drew ?_) | (with_reducible refine below_drewN ?_ _) | (with_reducible refine Below.setCell ?_ ?_ _) | (with_reducible refine Below.trans ?_ (Below.mono (by with_reducible assumption) ?_)) | go_size)) (by have := hb4.size; have := hb5.size; omega))).mono ?_
      rintro e w6 ⟨rfl, hb6⟩
      rw [HJ.out]
      go_wp2
      go_ret
      exact ⟨rfl, (by have z0 := Below.size hb1; have z1 := Below.size hb2; have z2 := Below.size hb3; have z3 := Below.size hb4; have z4 := Below.size hb5; have z5 := Below.size hb6; (try simp only [World.size_alloc, World.size_setCell, World.size_drew] at z0 z1 z2 z3 z4 z5 ⊢; skip); repeat' (first | (with_reducible exact Below.refl _ _) | (with_reducible assumption) | (with_reducible refine Below.alloc ?_ ?_ _) | (with_reducible refine Below.drew ?_) | (with_reducible refine below_drewN ?_ _) | (with_reducible refine Below.setCell ?_ ?_ _) | (with_reducible refine Below.trans ?_ (Below.mono (by with_reducible assumption) ?_)) | go_size))⟩
  · have hxa' : hoN a s = false := by simpa using hxa
    have HJ : Hid (inN (miN a b) s = 0) := by show inN (miN a b) s = 0; rw [HI.out, hxa']; rfl
    clear HI
    go_enter Try.func4, Try.ntmps4
    go_wp2_with (first | (go_at_call 18; (with_reducible refine (awake12 _).mono ?_); rintro e w1 ⟨rfl, hb1⟩; have hb1z := Below.size hb1; (try simp only [World.size_alloc, World.size_setCell, World.size_drew] at hb1z); have hb1c0 := fun o => below_at hb1 (w.heap.size) o (by first | omega | (simp only [World.size_alloc, World.size_setCell, World.size_drew]; omega)); have hb1f0 := fun o => below_fr hb1 (w.heap.size) o (by first | omega | (simp only [World.size_alloc, World.size_setCell, World.size_drew]; omega)); have hb1l0 : w.heap.size < (w1).heap.size := (by omega); have hb1c1 := fun o => below_at hb1 (w.heap.size + 1) o (by first | omega | (simp only [World.size_alloc, World.size_setCell, World.size_drew]; omega)); have hb1f1 := fun o => below_fr hb1 (w.heap.size + 1) o (by first | omega | (simp only [World.size_alloc, World.size_setCell, World.size_drew]; omega)); have hb1l1 : w.heap.size + 1 < (w1).heap.size := (by omega)) | (go_at_call 25; (with_reducible refine (bothZ a b ha hb _).mono ?_); rintro e w2 ⟨rfl, hb2⟩; have hb2z := Below.size hb2; (try simp only [World.size_alloc, World.size_setCell, World.size_drew] at hb2z); have hb2c0 := fun o => below_at hb2 (w.heap.size) o (by first | omega | (simp only [World.size_alloc, World.size_setCell, World.size_drew]; omega)); have hb2f0 := fun o => below_fr hb2 (w.heap.size) o (by first | omega | (simp only [World.size_alloc, World.size_setCell, World.size_drew]; omega)); have hb2l0 : w.heap.size < (w2).heap.size := (by omega); have hb2c1 := fun o => below_at hb2 (w.heap.size + 1) o (by first | omega | (simp only [World.size_alloc, World.size_setCell, World.size_drew]; omega)); have hb2f1 := fun o => below_fr hb2 (w.heap.size + 1) o (by first | omega | (simp only [World.size_alloc, World.size_setCell, World.size_drew]; omega)); have hb2l1 : w.heap.size + 1 < (w2).heap.size := (by omega)) | (go_at_call 23; (with_reducible refine (refMask_any (s : Int) _).mono ?_); rintro e _ ⟨rfl, rfl⟩) | (go_at_call 26; (with_reducible refine (minusX_ok a b ha hb _).mono ?_); rintro e w3 ⟨A3, c3, rfl, own3, hb3⟩; have hb3z := Below.size hb3; (try simp only [World.size_alloc, World.size_setCell, World.size_drew] at hb3z); have hb3c0 := fun o => below_at hb3 (w.heap.size) o (by first | omega | (simp only [World.size_alloc, World.size_setCell, World.size_drew]; omega)); have hb3f0 := fun o => below_fr hb3 (w.heap.size) o (by first | omega | (simp only [World.size_alloc, World.size_setCell, World.size_drew]; omega)); have hb3l0 : w.heap.size < (w3).heap.size := (by omega); have hb3c1 := fun o => below_at hb3 (w.heap.size + 1) o (by first | omega | (simp only [World.size_alloc, World.size_setCell, World.size_drew]; omega)); have hb3f1 := fun o => below_fr hb3 (w.heap.size + 1) o (by first | omega | (simp only [World.size_alloc, World.size_setCell, World.size_drew]; omega)); have hb3l1 : w.heap.size + 1 < (w3).heap.size := (by omega)) | fail)
    refine (holds_ok a s ha hs _).mono ?_
    rintro e w4 ⟨rfl, hb4⟩
    have y1 := fun o => below_at hb4 w.heap.size o (by omega)
    have y2 := fun o => below_at hb4 (w.heap.size + 1) o (by omega)
    have hb4z := Below.size hb4
    go_wp2_with fail
    refine (holds_ok b s hb hs _).mono ?_
    rintro e w5 ⟨rfl, hb5⟩
    go_wp2_with fail
    refine (in_any A3 (miN a b) c3 s _ _ rfl (by have := HL.out; omega) HO.out hs (own3.rd.on (by have z0 := Below.size hb4; have z1 := Below.size hb5; (try simp only [World.size_alloc, World.size_setCell, World.size_drew] at z0 z1 ⊢; skip); repeat' (first | (with_reducible exact Below.refl _ _) | (with_reducible assumption) | (with_reducible refine Below.alloc ?_ ?_ _) | (with_reducible refine Below.drew ?_) | (with_reducible refine below_drewN ?_ _) | (with_reducible refine Below.setCell ?_ ?_ _) | (with_reducible refine Below.trans ?_ (Below.mono (by with_reducible assumption) ?_)) | go_size)) (by have := hb4.size; have := hb5.size; omega))).mono ?_
    rintro e w6 ⟨rfl, hb6⟩
    rw [HJ.out]
    go_wp2
    go_ret
    exact ⟨rfl, (by have z0 := Below.size hb1; have z1 := Below.size hb2; have z2 := Below.size hb3; have z3 := Below.size hb4; have z4 := Below.size hb5; have z5 := Below.size hb6; (try simp only [World.size_alloc, World.size_setCell, World.size_drew] at z0 z1 z2 z3 z4 z5 ⊢; skip); repeat' (first | (with_reducible exact Below.refl _ _) | (with_reducible assumption) | (with_reducible refine Below.alloc ?_ ?_ _) | (with_reducible refine Below.drew ?_) | (with_reducible refine below_drewN ?_ _) | (with_reducible refine Below.setCell ?_ ?_ _) | (with_reducible refine Below.trans ?_ (Below.mono (by with_reducible assumption) ?_)) | go_size))⟩
theorem cubeSplits_law (a b : Cb) (s : Int) (w : World) : Calls Try.prog 4 #[cbv a, cbv b, .int .i64 s] w fun e w' => e = .returned (.bool true) ∧ Below w.heap.size w w' := by
  by_cases h : chk2 a b = 0
  · obtain ⟨x, y, hx, hy, rfl, rfl⟩ := chk2_ok h
    by_cases hs : maskB s = true
    · obtain ⟨m, rfl, hm⟩ := maskB_nat hs
      exact cubeSplits_ok x y m hx hy hm w
    · exact cubeSplits_out x y s hx hy (by simpa using hs) w
  · exact cubeSplits_bad a b s h w
end Go.Proofs.Ytedopalmfakeaaa
