/- Contracts of functions and lemmas, used by the proofs of the given statements. No condition beyond those that each lemma names. -/
import Derived.Test.YtnljncncnohncaaDoorLinS
import Derived.Test.YtnljncncnohncaaDoorLawE
namespace Go.Proofs.YtnljncncnohncaaDoor
open Go.RowKit
set_option linter.unusedSimpArgs false
set_option linter.unusedVariables false
set_option maxRecDepth 20000
attribute [local irreducible] nv wp win plainB validR valR canR
/-! ## Apply and Mul where the shapes do not fit; the reference's errors -/
section
variable {w : World} {n m ca : Nat} {A : Option Addr} {len : Nat → Nat} {R : Nat → Nat → Rw} {c : Int}
theorem apply_shape (h : MatI w w.heap.size A n len R) (hcode : codeM n len = 0) (hm : m ≠ len 0) (B : Option Addr) (cb : Nat) :
    Calls Tryd.prog 34 #[.slice A n ca, .slice B m cb] w fun e w' => e = .returned (.tuple #[.slice none 0 0, .iface 42 (.int .i64 11)]) ∧ w = w' := by
  obtain ⟨hn0, hl0, hn, hl, hall⟩ := codeM_zero hcode
  have K0 := Lib.hid (check_any (ca := ca) h (by omega) (fun i hi => by rw [hall i hi]; omega))
  rw [hcode, errM_0] at K0
  obtain ⟨b, off, A0, c0, rfl, hc0, hrows⟩ := h.at0 hn0
  have e1 : ((m : Int) == (len 0 : Int)) = false := beq_eq_false_iff_ne.2 (by omega)
  have e2 : ((m : Int) != (len 0 : Int)) = true := by rw [bne_iff_ne]; omega
  clear h hcode hm hrows hall
  generalize len 0 = l0 at *
  go_enter Tryd.func34, Tryd.ntmps34
  go_wp2_with (first | (go_at_call 24; (with_reducible refine (K0.out).mono ?_); rintro e _ ⟨rfl, rfl⟩) | fail)
  go_ret2
  exact ⟨rfl, rfl⟩
theorem rapply_err (K : Hid (Calls Tryd.prog 19 #[.slice A n ca] w fun e w' => e = .returned (.int .i64 c) ∧ w = w')) (h0 : c ≠ 0) (B : Value) :
    Calls Tryd.prog 35 #[.slice A n ca, B] w fun e w' => e = .returned (.tuple #[.slice none 0 0, .int .i64 c]) ∧ w = w' := by
  have e1 : (c == 0) = false := by simp [h0]
  have e2 : (c != 0) = true := by simp [h0]
  clear h0
  go_enter Tryd.func35, Tryd.ntmps35
  go_wp2_with (first | (go_at_call 19; (with_reducible refine (K.out).mono ?_); rintro e _ ⟨rfl, rfl⟩) | fail)
  go_ret2
  exact ⟨rfl, rfl⟩
theorem rapply_shape (h : MatI w w.heap.size A n len R) (hcode : codeM n len = 0) (hm : m ≠ len 0) (B : Option Addr) (cb : Nat) :
    Calls Tryd.prog 35 #[.slice A n ca, .slice B m cb] w fun e w' => e = .returned (.tuple #[.slice none 0 0, .int .i64 11]) ∧ w = w' := by
  obtain ⟨hn0, hl0, hn, hl, hall⟩ := codeM_zero hcode
  have K0 := Lib.hid (rcheck_any (ca := ca) h (by omega) (fun i hi => by rw [hall i hi]; omega))
  rw [hcode] at K0
  obtain ⟨b, off, A0, c0, rfl, hc0, hrows⟩ := h.at0 hn0
  have e1 : ((m : Int) == (len 0 : Int)) = false := beq_eq_false_iff_ne.2 (by omega)
  have e2 : ((m : Int) != (len 0 : Int)) = true := by rw [bne_iff_ne]; omega
  clear h hcode hm hrows hall
  generalize len 0 = l0 at *
  go_enter Tryd.func35, Tryd.ntmps35
  go_wp2_with (first | (go_at_call 19; (with_reducible refine (K0.out).mono ?_); rintro e _ ⟨rfl, rfl⟩) | fail)
  go_ret2
  exact ⟨rfl, rfl⟩
end
end Go.Proofs.YtnljncncnohncaaDoor
