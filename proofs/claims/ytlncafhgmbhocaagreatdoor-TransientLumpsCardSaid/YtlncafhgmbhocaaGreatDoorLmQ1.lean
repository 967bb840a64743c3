/- Contracts of functions and lemmas, used by the proofs of the given statements. No condition beyond those that each lemma names. -/
import Derived.Test.YtlncafhgmbhocaaGreatDoorJLmW5
namespace Go.Proofs.YtlncafhgmbhocaaGreatDoor
open Go.RowKit
set_option linter.unusedSimpArgs false
set_option linter.unusedVariables false
set_option maxRecDepth 20000
/-! ## slices.Max at ints; the reference of law51: Refines -/
def IsMax (n : Nat) (P : Nat → Int) (m : Int) : Prop := (∃ i, i < n ∧ P i = m) ∧ ∀ i, i < n → P i ≤ m
set_option maxHeartbeats 4000000 in
theorem slMax_any {w : World} {A : Option Addr} {n c : Nat} {P : Nat → Int} (h : PaI w A n P) (hn : n ≤ 1000000) (h0 : 0 < n) :
    Calls Tryz.prog 39 #[.slice A n c] w fun e w' => (∃ m : Int, e = .returned (.int .i64 m) ∧ IsMax n P m) ∧ Below w.heap.size w w' := by
  have HA := Lib.hid h
  obtain ⟨b, off, rfl, hbb, x0⟩ := h.later (Below.refl _ _) h0
  have x0' : w.cell? ⟨b, off, none⟩ = some (.int .i64 (P 0)) := x0
  have e0 : decide ((n : Int) < 1) = false := by simp; omega
  have hn0 : (0 : Int) < (n : Int) := by omega
  clear h x0
  go_enter Tryz.func39, Tryz.ntmps39
  go_wp2
  go_loopw [3, 4] (fun m i wr => ∃ (k : Nat) (x : Int), 0 < k ∧ k ≤ n ∧ i = .int .i64 (k : Int) ∧ m = .int .i64 x ∧ (∃ j, j < k ∧ P j = x) ∧ (∀ j, j < k → P j ≤ x) ∧ Below w.heap.size w wr) (fun _ i _ => n - (intOf i).toNat)
  case atStart => exact ⟨1, P 0, by omega, by omega, by go_num, rfl, ⟨0, by omega, rfl⟩, fun j hj => by rw [show j = 0 by omega]; exact Int.le_refl _, Below.refl _ _⟩
  case round =>
    obtain ⟨k, x, hk0, hk, rfl, rfl, hex, hall, hb⟩ := hrel
    have HE := Lib.hid hex
    have HL := Lib.hid hall
    clear hex hall x0'
    by_cases hlt : k < n
    · obtain ⟨b', off', ee, -, x1⟩ := HA.out.later hb hlt
      cases ee
      have hki : (k : Int) < (n : Int) := by omega
      have hk1 : (0 : Int) ≤ (k : Int) := by omega
      obtain ⟨y, hy⟩ : ∃ y, y = P k := ⟨_, rfl⟩
      rw [← hy] at x1
      have HYk := Lib.hid hy
      clear hy
      by_cases hxy : x < y
      · have HXY := Lib.hid hxy
        have e1 : max x y = y := Int.max_eq_right (by omega)
        go_wp2
        go_roundw
        case rel =>
          refine ⟨k + 1, y, by omega, by omega, by go_num, by first | rfl | (simp; omega), ⟨k, by omega, HYk.out.symm⟩, fun j hj => ?_, hb⟩
          by_cases e : j = k
          · rw [e, ← HYk.out]; exact Int.le_refl _
          · exact Int.le_trans (HL.out j (by omega)) (Int.le_of_lt HXY.out)
        case measure => first | (simp [intOf]; done) | (simp [intOf]; omega)
      · have HXY := Lib.hid hxy
        have e1 : max x y = x := Int.max_eq_left (by omega)
        go_wp2
        go_roundw
        case rel =>
          refine ⟨k + 1, x, by omega, by omega, by go_num, by first | rfl | (simp; omega), ?_, fun j hj => ?_, hb⟩
          · obtain ⟨j, h1, h2⟩ := HE.out
            exact ⟨j, by omega, h2⟩
          · by_cases e : j = k
            · rw [e, ← HYk.out]; have := HXY.out; omega
            · exact HL.out j (by omega)
        case measure => first | (simp [intOf]; done) | (simp [intOf]; omega)
    · have hkn : k = n := by omega
      subst hkn
      go_wp2
      go_ret
      exact ⟨⟨x, rfl, HE.out, HL.out⟩, hb⟩
end Go.Proofs.YtlncafhgmbhocaaGreatDoor
