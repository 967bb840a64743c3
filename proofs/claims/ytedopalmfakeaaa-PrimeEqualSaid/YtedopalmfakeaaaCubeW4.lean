/- Contracts of functions and lemmas, used by the proofs of the given statements. No condition beyond those that each lemma names. -/
import Derived.Test.YtedopalmfakeaaaCubeW3
namespace Go.Proofs.Ytedopalmfakeaaa
open Go.RowKit
set_option linter.unusedSimpArgs false
set_option linter.unusedVariables false
/-! ## Consensus -/
def csB (a b : Cn) : Bool := popc (unl a b) == 1
def csN (a b : Cn) : Cn := if csB a b then coN a b else (0, 0)
theorem refCons_no (a b : Cn) (ha : okN a) (hb : okN b) (hp : csB a b = false) (w : World) : Calls Try.prog 32 #[cbv (zc a), cbv (zc b)] w fun e w' => e = .returned (.tuple #[cbv (zc (0, 0)), .bool false]) ∧ Below w.heap.size w w' := by
  have e1 := apN_eq a b ha hb
  have hu := unl_lt a b ha hb
  have hq : (((popc (unl a b) : Nat) : Int) != 1) = true := by
    rw [bne_iff_ne]
    intro h
    have h1 : popc (unl a b) = 1 := by omega
    simp [csB, h1] at hp
  clear hp
  generalize unl a b = u at *
  go_enter Try.func32, Try.ntmps32
  go_wp2_with (first | (go_at_call 78; (with_reducible refine (refBits_any u hu _).mono ?_); rintro e _ ⟨rfl, rfl⟩))
  refine bodyPost_ret (v := (.tuple #[cbv (zc (0, 0)), .bool false])) (by simp [results, Try.results32, go_sem]) rfl ?_
  exact ⟨rfl, (by (skip); repeat' (first | (with_reducible exact Below.refl _ _) | (with_reducible assumption) | (with_reducible refine Below.alloc ?_ ?_ _) | (with_reducible refine Below.drew ?_) | (with_reducible refine below_drewN ?_ _) | (with_reducible refine Below.setCell ?_ ?_ _) | (with_reducible refine Below.trans ?_ (Below.mono (by with_reducible assumption) ?_)) | omega | (simp only [World.size_alloc, World.size_setCell, World.size_drew, size_drewN']; omega) | go_size))⟩
theorem refCons_yes (a b : Cn) (ha : okN a) (hb : okN b) (hp : csB a b = true) (w : World) : Calls Try.prog 32 #[cbv (zc a), cbv (zc b)] w fun e w' => e = .returned (.tuple #[cbv (zc (coN a b)), .bool true]) ∧ Below w.heap.size w w' := by
  have e1 := apN_eq a b ha hb
  have hu := unl_lt a b ha hb
  have hq : popc (unl a b) = 1 := by simpa [csB] using hp
  have e2 := i64_or a.1 b.1 (by have := ha.1; omega) (by have := hb.1; omega)
  have e3 := i64_or a.2 b.2 (by have := ha.2.1; omega) (by have := hb.2.1; omega)
  have e4 := i64_andNot (a.1 ||| b.1) (unl a b) (by have := or_lt24 ha.1 hb.1; omega) (by omega)
  have e5 := i64_andNot (a.2 ||| b.2) (unl a b) (by have := or_lt24 ha.2.1 hb.2.1; omega) (by omega)
  clear hp
  unfold coN
  generalize unl a b = u at *
  go_enter Try.func32, Try.ntmps32
  go_wp2_with (first | (go_at_call 78; (with_reducible refine (refBits_any u hu _).mono ?_); rintro e _ ⟨rfl, rfl⟩))
  refine bodyPost_ret (v := (.tuple #[cbv (zc (ndiff (a.1 ||| b.1) u, ndiff (a.2 ||| b.2) u)), .bool true])) (by simp [results, Try.results32, go_sem]) rfl ?_
  exact ⟨rfl, (by (skip); repeat' (first | (with_reducible exact Below.refl _ _) | (with_reducible assumption) | (with_reducible refine Below.alloc ?_ ?_ _) | (with_reducible refine Below.drew ?_) | (with_reducible refine below_drewN ?_ _) | (with_reducible refine Below.setCell ?_ ?_ _) | (with_reducible refine Below.trans ?_ (Below.mono (by with_reducible assumption) ?_)) | omega | (simp only [World.size_alloc, World.size_setCell, World.size_drew, size_drewN']; omega) | go_size))⟩
theorem refCons_ok (a b : Cn) (ha : okN a) (hb : okN b) (w : World) : Calls Try.prog 32 #[cbv (zc a), cbv (zc b)] w fun e w' => e = .returned (.tuple #[cbv (zc (csN a b)), .bool (csB a b)]) ∧ Below w.heap.size w w' := by
  by_cases hp : csB a b = true
  · exact (refCons_yes a b ha hb hp w).mono fun e w' ⟨h1, h2⟩ => ⟨by rw [h1, hp, csN, if_pos hp], h2⟩
  · have hp' : csB a b = false := by simpa using hp
    exact (refCons_no a b ha hb hp' w).mono fun e w' ⟨h1, h2⟩ => ⟨by rw [h1, hp', csN, if_neg hp], h2⟩
end Go.Proofs.Ytedopalmfakeaaa
