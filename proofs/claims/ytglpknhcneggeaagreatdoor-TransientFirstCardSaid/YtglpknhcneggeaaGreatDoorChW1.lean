/- Contracts of functions and lemmas, used by the proofs of the given statements. No condition beyond those that each lemma names. -/
import Derived.Test.YtglpknhcneggeaaGreatDoorChM
namespace Go.Proofs.YtglpknhcneggeaaGreatDoor
open Go.RowKit
set_option linter.unusedSimpArgs false
set_option linter.unusedVariables false
set_option maxRecDepth 20000
attribute [local irreducible] nv wp win plainB validR valR canR
/-! ## Valid, Sign of a fraction that lies there -/
theorem validS {w : World} {b0 : Nat} {v : Value} {r : Rw} (h : RdS w b0 v r) (h1 : r.2.1.length ≤ 1000) (h2 : r.2.2.length ≤ 1000) :
    Calls Tryz.prog 90 #[v] w fun e w' => e = .returned (.bool (validR r)) ∧ Below w.heap.size w w' := by
  obtain ⟨A, c, B, d, rfl, c1, c2, ok, rA, rB, _, _⟩ := h
  exact valid_any _ _ _ _ _ _ _ _ _ w rfl rfl (by omega) (by omega) c1 c2 ok.1 ok.2 rA rB
theorem rvalidS {w : World} {b0 : Nat} {v : Value} {r : Rw} (h : RdS w b0 v r) (h1 : r.2.1.length ≤ 1000) (h2 : r.2.2.length ≤ 1000) :
    Calls Tryz.prog 61 #[v] w fun e w' => e = .returned (.bool (validR r)) ∧ Below w.heap.size w w' := by
  obtain ⟨A, c, B, d, rfl, c1, c2, ok, rA, rB, _, _⟩ := h
  exact rvalid_any _ _ _ _ _ _ _ w (by omega) (by omega) c1 c2 ok.1 ok.2 rA rB
theorem signS {w : World} {b0 : Nat} {v : Value} {r : Rw} {z : Int} (h : RdS w b0 v r) (h1 : r.2.1.length ≤ 1000) (h2 : r.2.2.length ≤ 1000) (hz : sgnQ (valR r) = z) :
    Calls Tryz.prog 41 #[v] w fun e w' => e = .returned (.int .i64 z) ∧ Below w.heap.size w w' := by
  subst hz
  exact signQ (h.rdq (L := 1000) h1 h2) (by omega) (by omega)
theorem rsignS {w : World} {b0 : Nat} {v : Value} {r : Rw} {z : Int} (h : RdS w b0 v r) (h1 : r.2.1.length ≤ 1000) (h2 : r.2.2.length ≤ 1000) (hz : sgnQ (valR r) = z) :
    Calls Tryz.prog 62 #[v] w fun e w' => e = .returned (.int .i64 z) ∧ Below w.heap.size w w' := by
  subst hz
  exact rsignQ (h.rdq (L := 1000) h1 h2) (by omega) (by omega)
theorem sgn_pos {q : Rat} (h : 0 < q) : sgnQ q = 1 := by
  unfold sgnQ
  rw [if_neg (fun e => by rw [e] at h; exact absurd h (by decide)), if_neg (Rat.not_lt.2 (Rat.le_of_lt h))]
theorem sgn_neg {q : Rat} (h : q < 0) : sgnQ q = -1 := by
  unfold sgnQ
  rw [if_neg (fun e => by rw [e] at h; exact absurd h (by decide)), if_pos h]
theorem sgn_zero : sgnQ 0 = 0 := rfl
theorem sgn_le {q : Rat} (h : ¬ 0 < q) : sgnQ q = 0 ∨ sgnQ q = -1 := by
  by_cases h0 : q = 0
  · rw [h0]; exact .inl rfl
  · exact .inr (sgn_neg (by grind))
/-! ## package chain: state, before -/
section
variable {st sr s : Int} {AM AD : Option Addr} {nm cm nd cd : Nat}
theorem state_yes (w : World) (h0 : 0 ≤ s) (h1 : s < st) : Calls Tryz.prog 113 #[cv st sr AM nm cm AD nd cd, .int .i64 s] w fun e w' => e = .returned (.bool true) ∧ Below w.heap.size w w' := by
  have e1 : decide (0 ≤ s) = true := by simpa using h0
  go_enter Tryz.func113, Tryz.ntmps113
  go_wp2
  go_ret
  exact ⟨rfl, (Below.refl _ _).alloc (Nat.le_refl _) _⟩
theorem state_no (w : World) (h : s < 0 ∨ st ≤ s) : Calls Tryz.prog 113 #[cv st sr AM nm cm AD nd cd, .int .i64 s] w fun e w' => e = .returned (.bool false) ∧ Below w.heap.size w w' := by
  by_cases h0 : s < 0
  · have e1 : decide (0 ≤ s) = false := by simpa using h0
    clear h
    go_enter Tryz.func113, Tryz.ntmps113
    go_wp2
    go_ret
    exact ⟨rfl, (Below.refl _ _).alloc (Nat.le_refl _) _⟩
  · have e1 : decide (0 ≤ s) = true := by simpa using h0
    have h2 : decide (s < st) = false := by simp; omega
    clear h
    go_enter Tryz.func113, Tryz.ntmps113
    go_wp2
    go_ret
    exact ⟨rfl, (Below.refl _ _).alloc (Nat.le_refl _) _⟩
end
section
variable {f t f' t' : Int} {s s' : Bool} {A B A' B' : Option Addr} {n c m d n' c' m' d' : Nat}
theorem before_yes (w : World) (h : f < f' ∨ f = f' ∧ t < t') : Calls Tryz.prog 114 #[.agg #[.int .i64 f, .int .i64 t, .bool s, .slice A n c, .slice B m d], .agg #[.int .i64 f', .int .i64 t', .bool s', .slice A' n' c', .slice B' m' d']] w fun e w' => e = .returned (.bool true) ∧ Below w.heap.size w w' := by
  by_cases h0 : f < f'
  · have e1 : decide (f < f') = true := by simpa using h0
    clear h
    go_enter Tryz.func114, Tryz.ntmps114
    go_wp2
    go_ret
    exact ⟨rfl, ((Below.refl _ _).alloc (Nat.le_refl _) _).alloc (by simp) _⟩
  · obtain rfl : f = f' := by omega
    have e1 : decide (f < f) = false := by simp
    have e2 : decide (t < t') = true := by simp; omega
    clear h h0
    go_enter Tryz.func114, Tryz.ntmps114
    go_wp2
    go_ret
    exact ⟨rfl, ((Below.refl _ _).alloc (Nat.le_refl _) _).alloc (by simp) _⟩
theorem before_no (w : World) (h : ¬ (f < f' ∨ f = f' ∧ t < t')) : Calls Tryz.prog 114 #[.agg #[.int .i64 f, .int .i64 t, .bool s, .slice A n c, .slice B m d], .agg #[.int .i64 f', .int .i64 t', .bool s', .slice A' n' c', .slice B' m' d']] w fun e w' => e = .returned (.bool false) ∧ Below w.heap.size w w' := by
  have e1 : decide (f < f') = false := by simp; omega
  by_cases h0 : f = f'
  · subst h0
    have e2 : decide (t < t') = false := by simp; omega
    clear h
    go_enter Tryz.func114, Tryz.ntmps114
    go_wp2
    go_ret
    exact ⟨rfl, ((Below.refl _ _).alloc (Nat.le_refl _) _).alloc (by simp) _⟩
  · have e2 : (f == f') = false := by simpa using h0
    clear h
    go_enter Tryz.func114, Tryz.ntmps114
    go_wp2
    go_ret
    exact ⟨rfl, ((Below.refl _ _).alloc (Nat.le_refl _) _).alloc (by simp) _⟩
end
end Go.Proofs.YtglpknhcneggeaaGreatDoor
