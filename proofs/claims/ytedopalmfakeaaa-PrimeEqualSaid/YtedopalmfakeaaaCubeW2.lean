/- Contracts of functions and lemmas, used by the proofs of the given statements. No condition beyond those that each lemma names. -/
import Derived.Test.YtedopalmfakeaaaCubeW1
namespace Go.Proofs.Ytedopalmfakeaaa
open Go.RowKit
set_option linter.unusedSimpArgs false
set_option linter.unusedVariables false

theorem oc64_any (x : Nat) (hx : x < 16777216) (w : World) : Calls Try.prog 109 #[.int .u64 (x : Int)] w fun e w' => e = .returned (.int .i64 (popc x : Nat)) ∧ w = w' := by
  obtain ⟨hfin, h3, h2, h1⟩ := swar x hx
  have HF := Lib.hid hfin
  clear hfin
  have e1 := oc1 x hx
  have e2 := oc2 (p1 x) h1 h2
  have e3 := oc3 (p2 (p1 x)) h2
  generalize p1 x = y at *
  generalize p2 y = z at *
  generalize p3 z = t at *
  have g4 : ((t : Int) + (t : Int) / 256) = (p4 t : Nat) := by unfold p4; omega
  have g5 : ((p4 t : Nat) : Int) + ((p4 t : Nat) : Int) / 65536 = (p5 (p4 t) : Nat) := by unfold p5; omega
  have g6 : ((p5 (p4 t) : Nat) : Int) + ((p5 (p4 t) : Nat) : Int) / 4294967296 = (p6 (p5 (p4 t)) : Nat) := by unfold p6; omega
  have b4 : p4 t < 16777216 * 2 := by unfold p4; omega
  have b5 : p5 (p4 t) < 16777216 * 4 := by unfold p5; omega
  have b6 : p6 (p5 (p4 t)) < 16777216 * 8 := by unfold p6; omega
  have e7 := oc7 (p6 (p5 (p4 t))) (by omega)
  rw [HF.out] at e7
  clear HF
  go_enter Try.func109, Try.ntmps109
  go_wp2
  go_ret
  exact ⟨rfl, rfl⟩
theorem oc_any (x : Nat) (hx : x < 16777216) (w : World) : Calls Try.prog 76 #[.int .u64 (x : Int)] w fun e w' => e = .returned (.int .i64 (popc x : Nat)) ∧ w = w' := by
  go_enter Try.func76, Try.ntmps76
  go_wp2_with (go_at_call 109; refine (oc64_any x hx _).mono ?_; rintro e w' ⟨rfl, rfl⟩)
  go_ret
  exact ⟨rfl, rfl⟩
theorem refBits_any (x : Nat) (hx : x < 16777216) (w : World) : Calls Try.prog 78 #[.int .i64 (x : Int)] w fun e w' => e = .returned (.int .i64 (popc x : Nat)) ∧ w = w' := by
  go_enter Try.func78, Try.ntmps78
  go_wp2
  go_loop [0, 3] (fun n o => ∃ m q : Nat, m < 16777216 ∧ q ≤ 24 ∧ q + popc m = popc x ∧ n = .int .i64 m ∧ o = .int .i64 q) (fun n _ => (intOf n).toNat)
  case atStart => exact ⟨x, 0, hx, by omega, by omega, rfl, rfl⟩
  case round =>
    obtain ⟨m, q, hm, hq, he, rfl, rfl⟩ := hrel
    have HE := Lib.hid he
    clear he
    have e1 := i64_and1 m hm
    by_cases h0 : 0 < m
    · have HH := Lib.hid (popc_half m hm)
      have hqs : q + m % 2 ≤ 24 := by have := popc_le x; have a := HE.out; have b := HH.out; omega
      have hq2 : m % 2 ≤ 1 := by omega
      go_wp2
      go_round
      case rel => exact ⟨m / 2, q + m % 2, by omega, hqs, by have a := HE.out; have b := HH.out; omega, by first | rfl | go_num, by go_num⟩
      case measure => simp [intOf]; omega
    · have hm0 : m = 0 := by omega
      have hz : popc m = 0 := by rw [hm0]; exact pop_zero 24
      have HQ : Hid (q = popc x) := by have a := HE.out; show q = popc x; omega
      clear hz hm0
      go_wp2
      go_ret
      exact ⟨by rw [← HQ.out]; rfl, rfl⟩

/-! ## two cubes -/
theorem apN_eq (a b : Cn) (ha : okN a) (hb : okN b) : bits .or .i64 (bits .and .i64 (a.1 : Int) (b.2 : Int)) (bits .and .i64 (a.2 : Int) (b.1 : Int)) = (unl a b : Nat) := by
  obtain ⟨a1, a2, _⟩ := ha
  obtain ⟨b1, b2, _⟩ := hb
  rw [i64_and _ _ (by omega) (by omega), i64_and _ _ (by omega) (by omega), i64_or _ _ (by have := @Nat.and_le_left a.1 b.2; omega) (by have := @Nat.and_le_left a.2 b.1; omega)]
  rfl
theorem unl_lt (a b : Cn) (ha : okN a) (hb : okN b) : unl a b < 16777216 :=
  or_lt24 (Nat.lt_of_le_of_lt Nat.and_le_left ha.1) (Nat.lt_of_le_of_lt Nat.and_le_left ha.2.1)
theorem ndiff_lt24 {x y : Nat} (hx : x < 16777216) : ndiff x y < 16777216 := ndiff_lt (n := 24) hx
theorem wiN_eq (a b : Cn) (ha : okN a) (hb : okN b) : bits .or .i64 (bits .andNot .i64 (b.1 : Int) (a.1 : Int)) (bits .andNot .i64 (b.2 : Int) (a.2 : Int)) = ((ndiff b.1 a.1 ||| ndiff b.2 a.2 : Nat) : Int) := by
  obtain ⟨a1, a2, _⟩ := ha
  obtain ⟨b1, b2, _⟩ := hb
  have h1 := @ndiff_lt24 b.1 a.1 b1
  have h2 := @ndiff_lt24 b.2 a.2 b2
  rw [i64_andNot _ _ (by omega) (by omega), i64_andNot _ _ (by omega) (by omega), i64_or _ _ (by omega) (by omega)]
theorem nat_ne (n : Nat) : ((n : Int) != 0) = (n != 0) := by
  rw [Bool.eq_iff_iff]; simp
theorem nat_eq (n : Nat) : ((n : Int) == 0) = (n == 0) := by
  rw [Bool.eq_iff_iff]; simp
theorem apart_any (a b : Cn) (ha : okN a) (hb : okN b) (w : World) : Calls Try.prog 75 #[cbv (zc a), cbv (zc b)] w fun e w' => e = .returned (.bool (apN a b)) ∧ Below w.heap.size w w' := by
  go_enter Try.func75, Try.ntmps75
  go_wp2
  go_ret
  exact ⟨ret_bool (by show (bits .or .i64 (bits .and .i64 (a.1 : Int) (b.2 : Int)) (bits .and .i64 (a.2 : Int) (b.1 : Int)) != 0) = _; rw [apN_eq a b ha hb, nat_ne]; rfl), (by (skip); repeat' (first | (with_reducible exact Below.refl _ _) | (with_reducible assumption) | (with_reducible refine Below.alloc ?_ ?_ _) | (with_reducible refine Below.drew ?_) | (with_reducible refine below_drewN ?_ _) | (with_reducible refine Below.setCell ?_ ?_ _) | (with_reducible refine Below.trans ?_ (Below.mono (by with_reducible assumption) ?_)) | omega | (simp only [World.size_alloc, World.size_setCell, World.size_drew, size_drewN']; omega) | go_size))⟩
theorem within_any (a b : Cn) (ha : okN a) (hb : okN b) (w : World) : Calls Try.prog 74 #[cbv (zc a), cbv (zc b)] w fun e w' => e = .returned (.bool (wiN a b)) ∧ Below w.heap.size w w' := by
  go_enter Try.func74, Try.ntmps74
  go_wp2
  go_ret
  exact ⟨ret_bool (by show (bits .or .i64 (bits .andNot .i64 (b.1 : Int) (a.1 : Int)) (bits .andNot .i64 (b.2 : Int) (a.2 : Int)) == 0) = _; rw [wiN_eq a b ha hb, nat_eq]; rfl), (by (skip); repeat' (first | (with_reducible exact Below.refl _ _) | (with_reducible assumption) | (with_reducible refine Below.alloc ?_ ?_ _) | (with_reducible refine Below.drew ?_) | (with_reducible refine below_drewN ?_ _) | (with_reducible refine Below.setCell ?_ ?_ _) | (with_reducible refine Below.trans ?_ (Below.mono (by with_reducible assumption) ?_)) | omega | (simp only [World.size_alloc, World.size_setCell, World.size_drew, size_drewN']; omega) | go_size))⟩
/-- the reference's form -/
theorem zero_or (x y : Nat) : (x ||| y == 0) = (x == 0 && y == 0) := by
  rw [Bool.eq_iff_iff]
  simp [Nat.or_eq_zero_iff]
theorem refImplies_any (a b : Cn) (ha : okN a) (hb : okN b) (w : World) : Calls Try.prog 33 #[cbv (zc a), cbv (zc b)] w fun e w' => e = .returned (.bool (wiN a b)) ∧ Below w.heap.size w w' := by
  have e1 := i64_andNot b.1 a.1 (by have := hb.1; omega) (by have := ha.1; omega)
  have e2 := i64_andNot b.2 a.2 (by have := hb.2.1; omega) (by have := ha.2.1; omega)
  have HW : Hid (wiN a b = (ndiff b.1 a.1 == 0 && ndiff b.2 a.2 == 0)) := zero_or _ _
  generalize ndiff b.1 a.1 = x at *
  generalize ndiff b.2 a.2 = y at *
  by_cases hx : x = 0
  · subst hx
    go_enter Try.func33, Try.ntmps33
    go_wp2
    go_ret
    exact ⟨ret_bool (by rw [HW.out]; simp [← nat_eq]), (by (skip); repeat' (first | (with_reducible exact Below.refl _ _) | (with_reducible assumption) | (with_reducible refine Below.alloc ?_ ?_ _) | (with_reducible refine Below.drew ?_) | (with_reducible refine below_drewN ?_ _) | (with_reducible refine Below.setCell ?_ ?_ _) | (with_reducible refine Below.trans ?_ (Below.mono (by with_reducible assumption) ?_)) | omega | (simp only [World.size_alloc, World.size_setCell, World.size_drew, size_drewN']; omega) | go_size))⟩
  · have hx' : ((x : Int) == 0) = false := by rw [nat_eq]; simpa using hx
    go_enter Try.func33, Try.ntmps33
    go_wp2
    go_ret
    exact ⟨ret_bool (by rw [HW.out]; simp [hx]), (by (skip); repeat' (first | (with_reducible exact Below.refl _ _) | (with_reducible assumption) | (with_reducible refine Below.alloc ?_ ?_ _) | (with_reducible refine Below.drew ?_) | (with_reducible refine below_drewN ?_ _) | (with_reducible refine Below.setCell ?_ ?_ _) | (with_reducible refine Below.trans ?_ (Below.mono (by with_reducible assumption) ?_)) | omega | (simp only [World.size_alloc, World.size_setCell, World.size_drew, size_drewN']; omega) | go_size))⟩
theorem refMeets_any (a b : Cn) (ha : okN a) (hb : okN b) (w : World) : Calls Try.prog 77 #[cbv (zc a), cbv (zc b)] w fun e w' => e = .returned (.bool (!apN a b)) ∧ Below w.heap.size w w' := by
  have e1 := i64_and a.1 b.2 (by have := ha.1; omega) (by have := hb.2.1; omega)
  have e2 := i64_and a.2 b.1 (by have := ha.2.1; omega) (by have := hb.1; omega)
  have HW : Hid ((!apN a b) = (a.1 &&& b.2 == 0 && a.2 &&& b.1 == 0)) := by
    show (!apN a b) = _
    rw [← zero_or]; simp only [apN, bne, Bool.not_not]
  generalize a.1 &&& b.2 = x at *
  generalize a.2 &&& b.1 = y at *
  by_cases hx : x = 0
  · subst hx
    go_enter Try.func77, Try.ntmps77
    go_wp2
    go_ret
    exact ⟨ret_bool (by rw [HW.out]; simp [← nat_eq]), (by (skip); repeat' (first | (with_reducible exact Below.refl _ _) | (with_reducible assumption) | (with_reducible refine Below.alloc ?_ ?_ _) | (with_reducible refine Below.drew ?_) | (with_reducible refine below_drewN ?_ _) | (with_reducible refine Below.setCell ?_ ?_ _) | (with_reducible refine Below.trans ?_ (Below.mono (by with_reducible assumption) ?_)) | omega | (simp only [World.size_alloc, World.size_setCell, World.size_drew, size_drewN']; omega) | go_size))⟩
  · have hx' : ((x : Int) == 0) = false := by rw [nat_eq]; simpa using hx
    go_enter Try.func77, Try.ntmps77
    go_wp2
    go_ret
    exact ⟨ret_bool (by rw [HW.out]; simp [hx]), (by (skip); repeat' (first | (with_reducible exact Below.refl _ _) | (with_reducible assumption) | (with_reducible refine Below.alloc ?_ ?_ _) | (with_reducible refine Below.drew ?_) | (with_reducible refine below_drewN ?_ _) | (with_reducible refine Below.setCell ?_ ?_ _) | (with_reducible refine Below.trans ?_ (Below.mono (by with_reducible assumption) ?_)) | omega | (simp only [World.size_alloc, World.size_setCell, World.size_drew, size_drewN']; omega) | go_size))⟩
end Go.Proofs.Ytedopalmfakeaaa
