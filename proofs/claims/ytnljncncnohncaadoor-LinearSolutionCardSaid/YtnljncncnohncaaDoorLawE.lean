/- Contracts of functions and lemmas, used by the proofs of the given statements. No condition beyond those that each lemma names. -/
import Derived.Test.YtnljncncnohncaaDoorLawV
namespace Go.Proofs.YtnljncncnohncaaDoor
open Go.RowKit
set_option linter.unusedSimpArgs false
set_option linter.unusedVariables false
set_option maxRecDepth 20000
attribute [local irreducible] nv wp win plainB validR valR canR
/-! ## numbers of errors; what the functions return at a matrix that is refused -/
theorem num_0 (w : World) : Calls Tryd.prog 16 #[.nilIface] w fun e w' => e = .returned (.int .i64 0) ∧ w = w' := by
  go_enter Tryd.func16, Tryd.ntmps16
  go_wp2
  go_ret
  exact ⟨rfl, rfl⟩
theorem num_n (n : Int) (w : World) : Calls Tryd.prog 16 #[.iface 42 (.int .i64 n)] w fun e w' => e = .returned (.int .i64 n) ∧ w = w' := by
  have hta : ∀ (x : Value) (w : World), (Instr.typeAssert (.iface 42 x) 28 42 true).run Tryd.prog w = .ok (.tuple #[x, .bool true]) w := fun _ _ => by kernel_rfl
  go_enter Tryd.func16, Tryd.ntmps16
  go_wp2
  go_ret
  exact ⟨rfl, rfl⟩
theorem num_e (c : Int) (w : World) : Calls Tryd.prog 16 #[errM c] w fun e w' => e = .returned (.int .i64 c) ∧ w = w' := by
  by_cases h : c = 0
  · subst h; exact num_0 w
  · rw [errM_n h]; exact num_n c w
section
variable {w : World} {b0 n ca : Nat} {A : Option Addr} {len : Nat → Nat} {R : Nat → Nat → Rw} {c : Int}
theorem check_err (h : MatI w b0 A n len R) (hn : n ≤ 1000000) (hl : ∀ i, i < n → len i ≤ 1000000) (hc : codeM n len = c) (h0 : c ≠ 0) :
    Calls Tryd.prog 24 #[.slice A n ca] w fun e w' => e = .returned (.iface 42 (.int .i64 c)) ∧ w = w' := by
  have := check_any (ca := ca) h hn hl
  rw [hc, errM_n h0] at this
  exact this
theorem apply_err (K : Hid (Calls Tryd.prog 24 #[.slice A n ca] w fun e w' => e = .returned (.iface 42 (.int .i64 c)) ∧ w = w')) (B : Value) :
    Calls Tryd.prog 34 #[.slice A n ca, B] w fun e w' => e = .returned (.tuple #[.slice none 0 0, .iface 42 (.int .i64 c)]) ∧ w = w' := by
  go_enter Tryd.func34, Tryd.ntmps34
  go_wp2_with (first | (go_at_call 24; (with_reducible refine (K.out).mono ?_); rintro e _ ⟨rfl, rfl⟩) | fail)
  go_ret2
  exact ⟨rfl, rfl⟩
theorem mul_err (K : Hid (Calls Tryd.prog 24 #[.slice A n ca] w fun e w' => e = .returned (.iface 42 (.int .i64 c)) ∧ w = w')) (B : Value) :
    Calls Tryd.prog 29 #[.slice A n ca, B] w fun e w' => e = .returned (.tuple #[.slice none 0 0, .iface 42 (.int .i64 c)]) ∧ w = w' := by
  go_enter Tryd.func29, Tryd.ntmps29
  go_wp2_with (first | (go_at_call 24; (with_reducible refine (K.out).mono ?_); rintro e _ ⟨rfl, rfl⟩) | fail)
  go_ret2
  exact ⟨rfl, rfl⟩
theorem reduce_err (K : Hid (Calls Tryd.prog 24 #[.slice A n ca] w fun e w' => e = .returned (.iface 42 (.int .i64 c)) ∧ w = w')) :
    Calls Tryd.prog 25 #[.slice A n ca] w fun e w' => e = .returned (.tuple #[.slice none 0 0, .slice none 0 0, .iface 42 (.int .i64 c)]) ∧ w = w' := by
  go_enter Tryd.func25, Tryd.ntmps25
  go_wp2_with (first | (go_at_call 24; (with_reducible refine (K.out).mono ?_); rintro e _ ⟨rfl, rfl⟩) | fail)
  go_ret3
  exact ⟨rfl, rfl⟩
theorem rank_err (K : Hid (Calls Tryd.prog 24 #[.slice A n ca] w fun e w' => e = .returned (.iface 42 (.int .i64 c)) ∧ w = w')) :
    Calls Tryd.prog 30 #[.slice A n ca] w fun e w' => e = .returned (.tuple #[.int .i64 0, .iface 42 (.int .i64 c)]) ∧ w = w' := by
  have KR := Lib.hid (reduce_err K)
  go_enter Tryd.func30, Tryd.ntmps30
  go_wp2_with (first | (go_at_call 25; (with_reducible refine (KR.out).mono ?_); rintro e _ ⟨rfl, rfl⟩) | fail)
  go_ret2
  exact ⟨rfl, rfl⟩
theorem kernel_err (K : Hid (Calls Tryd.prog 24 #[.slice A n ca] w fun e w' => e = .returned (.iface 42 (.int .i64 c)) ∧ w = w')) :
    Calls Tryd.prog 31 #[.slice A n ca] w fun e w' => e = .returned (.tuple #[.slice none 0 0, .iface 42 (.int .i64 c)]) ∧ w = w' := by
  have KR := Lib.hid (reduce_err K)
  go_enter Tryd.func31, Tryd.ntmps31
  go_wp2_with (first | (go_at_call 25; (with_reducible refine (KR.out).mono ?_); rintro e _ ⟨rfl, rfl⟩) | fail)
  go_ret2
  exact ⟨rfl, rfl⟩
theorem solve_err (K : Hid (Calls Tryd.prog 24 #[.slice A n ca] w fun e w' => e = .returned (.iface 42 (.int .i64 c)) ∧ w = w')) (B : Value) :
    Calls Tryd.prog 14 #[.slice A n ca, B] w fun e w' => e = .returned (.tuple #[.slice none 0 0, .iface 42 (.int .i64 c)]) ∧ w = w' := by
  go_enter Tryd.func14, Tryd.ntmps14
  go_wp2_with (first | (go_at_call 24; (with_reducible refine (K.out).mono ?_); rintro e _ ⟨rfl, rfl⟩) | fail)
  go_ret2
  exact ⟨rfl, rfl⟩
theorem det_err (K : Hid (∀ W, Below w.heap.size w W → Calls Tryd.prog 24 #[.slice A n ca] W fun e w' => e = .returned (.iface 42 (.int .i64 c)) ∧ W = w')) :
    Calls Tryd.prog 18 #[.slice A n ca] w fun e w' => e = .returned (.tuple #[zr, .iface 42 (.int .i64 c)]) ∧ Below w.heap.size w w' := by
  have hb := (Below.refl w.heap.size w).alloc (Nat.le_refl _) (.cells #[.bool false, .slice none 0 0, .slice none 0 0] 37)
  have K2 := Lib.hid (K.out _ hb)
  clear K
  go_enter Tryd.func18, Tryd.ntmps18
  go_wp2_with (first | (go_at_call 24; (with_reducible refine (K2.out).mono ?_); rintro e _ ⟨rfl, rfl⟩) | fail)
  refine bodyPost_ret (v := (.tuple #[zr, .iface 42 (.int .i64 c)])) (by simp [results, Tryd.results18, go_sem]) rfl ?_
  exact ⟨rfl, (by have z0 := Below.size hb; (try simp only [World.size_alloc, World.size_setCell, World.size_drew, size_drewN'] at z0 ⊢; skip); repeat' (first | (with_reducible exact Below.refl _ _) | (with_reducible assumption) | (with_reducible refine Below.alloc ?_ ?_ _) | (with_reducible refine Below.drew ?_) | (with_reducible refine below_drewN ?_ _) | (with_reducible refine Below.setCell ?_ ?_ _) | (with_reducible refine Below.trans ?_ (Below.mono (by with_reducible assumption) ?_)) | omega | (simp only [World.size_alloc, World.size_setCell, World.size_drew, size_drewN']; omega) | go_size))⟩
end
end Go.Proofs.YtnljncncnohncaaDoor
