/- Contracts of functions and lemmas, used by the proofs of the given statements. No condition beyond those that each lemma names. -/
import Derived.Test.YtedopalmfakeaaaCubeW2
namespace Go.Proofs.Ytedopalmfakeaaa
open Go.RowKit
set_option linter.unusedSimpArgs false
set_option linter.unusedVariables false
/-! ## Holds -/
theorem hoN_ref (c : Cn) (s : Nat) : hoN c s = ((s &&& c.1 == c.1) && (s &&& c.2 == 0)) := by
  unfold hoN
  rw [zero_or, Nat.and_comm c.2 s]
  congr 1
  rw [Bool.eq_iff_iff]
  simp only [beq_iff_eq]
  constructor
  · intro h
    apply Nat.eq_of_testBit_eq
    intro i
    have := congrArg (fun x => Nat.testBit x i) h
    simp only [testBit_ndiff, Nat.zero_testBit] at this
    rw [Nat.testBit_and]
    cases h1 : c.1.testBit i <;> cases h2 : s.testBit i <;> simp_all
  · intro h
    apply Nat.eq_of_testBit_eq
    intro i
    have := congrArg (fun x => Nat.testBit x i) h
    simp only [Nat.testBit_and] at this
    rw [testBit_ndiff, Nat.zero_testBit]
    cases h1 : c.1.testBit i <;> cases h2 : s.testBit i <;> simp_all
theorem nat_eqn (m n : Nat) : ((m : Int) == (n : Int)) = (m == n) := by
  rw [Bool.eq_iff_iff]; simp; omega
theorem refHolds_ok (c : Cn) (s : Nat) (h : okN c) (hs : s < 16777216) (w : World) : Calls Try.prog 24 #[cbv (zc c), .int .i64 (s : Int)] w fun e w' => e = .returned (.bool (hoN c s)) ∧ Below w.heap.size w w' := by
  have e1 := i64_and s c.1 (by omega) (by have := h.1; omega)
  have e2 := i64_and s c.2 (by omega) (by have := h.2.1; omega)
  have HW := Lib.hid (hoN_ref c s)
  generalize s &&& c.1 = x at *
  generalize s &&& c.2 = y at *
  by_cases hx : (x == c.1) = true
  · have hx' : ((x : Int) == (c.1 : Int)) = true := by rw [nat_eqn]; exact hx
    go_enter Try.func24, Try.ntmps24
    go_wp2
    go_ret
    exact ⟨ret_bool (by rw [HW.out, hx]; simp [← nat_eq]), (by (skip); repeat' (first | (with_reducible exact Below.refl _ _) | (with_reducible assumption) | (with_reducible refine Below.alloc ?_ ?_ _) | (with_reducible refine Below.drew ?_) | (with_reducible refine below_drewN ?_ _) | (with_reducible refine Below.setCell ?_ ?_ _) | (with_reducible refine Below.trans ?_ (Below.mono (by with_reducible assumption) ?_)) | omega | (simp only [World.size_alloc, World.size_setCell, World.size_drew, size_drewN']; omega) | go_size))⟩
  · have hx1 : (x == c.1) = false := by simpa using hx
    have hx' : ((x : Int) == (c.1 : Int)) = false := by rw [nat_eqn]; exact hx1
    go_enter Try.func24, Try.ntmps24
    go_wp2
    go_ret
    exact ⟨ret_bool (by rw [HW.out, hx1]; rfl), (by (skip); repeat' (first | (with_reducible exact Below.refl _ _) | (with_reducible assumption) | (with_reducible refine Below.alloc ?_ ?_ _) | (with_reducible refine Below.drew ?_) | (with_reducible refine below_drewN ?_ _) | (with_reducible refine Below.setCell ?_ ?_ _) | (with_reducible refine Below.trans ?_ (Below.mono (by with_reducible assumption) ?_)) | omega | (simp only [World.size_alloc, World.size_setCell, World.size_drew, size_drewN']; omega) | go_size))⟩
end Go.Proofs.Ytedopalmfakeaaa
