/- Contracts and lemmas for the given statements. Conditions: those alone that each names. -/
import Derived.Test.YtoiopnmphbnjaaaGreatDoorJLinO
import Derived.Test.YtoiopnmphbnjaaaGreatDoorJBase
namespace Go.Proofs.YtoiopnmphbnjaaaGreatDoor
open Go.RowKit
set_option linter.unusedSimpArgs false
set_option linter.unusedVariables false
set_option maxRecDepth 20000
attribute [local irreducible] nv wp win plainB validR valR canR
/-! ## Valid, Sign of a fraction that lies there -/
theorem validS {w : World} {b0 : Nat} {v : Value} {r : Rw} (h : RdS w b0 v r) (h1 : r.2.1.length ≤ 1000) (h2 : r.2.2.length ≤ 1000) :
   Calls Tryz.prog 58 #[v] w fun e w' => e = .returned (.bool (validR r)) ∧ Below w.heap.size w w' := by
 obtain ⟨A, c, B, d, rfl, c1, c2, ok, rA, rB, _, _⟩ := h
 exact valid_any _ _ _ _ _ _ _ _ _ w rfl rfl (by omega) (by omega) c1 c2 ok.1 ok.2 rA rB
theorem rvalidS {w : World} {b0 : Nat} {v : Value} {r : Rw} (h : RdS w b0 v r) (h1 : r.2.1.length ≤ 1000) (h2 : r.2.2.length ≤ 1000) :
   Calls Tryz.prog 78 #[v] w fun e w' => e = .returned (.bool (validR r)) ∧ Below w.heap.size w w' := by
 obtain ⟨A, c, B, d, rfl, c1, c2, ok, rA, rB, _, _⟩ := h
 exact rvalid_any _ _ _ _ _ _ _ w (by omega) (by omega) c1 c2 ok.1 ok.2 rA rB
theorem signS {w : World} {b0 : Nat} {v : Value} {r : Rw} {z : Int} (h : RdS w b0 v r) (h1 : r.2.1.length ≤ 1000) (h2 : r.2.2.length ≤ 1000) (hz : sgnQ (valR r) = z) :
   Calls Tryz.prog 23 #[v] w fun e w' => e = .returned (.int .i64 z) ∧ Below w.heap.size w w' := by
 subst hz
 exact signQ (h.rdq (L := 1000) h1 h2) (by omega) (by omega)
theorem rsignS {w : World} {b0 : Nat} {v : Value} {r : Rw} {z : Int} (h : RdS w b0 v r) (h1 : r.2.1.length ≤ 1000) (h2 : r.2.2.length ≤ 1000) (hz : sgnQ (valR r) = z) :
   Calls Tryz.prog 54 #[v] w fun e w' => e = .returned (.int .i64 z) ∧ Below w.heap.size w w' := by
 subst hz
 exact rsignQ (h.rdq (L := 1000) h1 h2) (by omega) (by omega)
theorem sgn_pos {q : Rat} (h : 0 < q) : sgnQ q = 1 := by
 unfold sgnQ
 rw [if_neg (fun e => by rw [e] at h; exact absurd h (by decide)), if_neg (Rat.not_lt.2 (Rat.le_of_lt h))]
theorem sgn_neg {q : Rat} (h : q < 0) : sgnQ q = -1 := by
 unfold sgnQ
 rw [if_neg (fun e => by rw [e] at h; exact absurd h (by decide)), if_pos h]
/-! ## package chain: state, before -/
section
variable {st sr s : Int} {AM AD : Option Addr} {nm cm nd cd : Nat}
end
section
variable {f t f' t' : Int} {s s' : Bool} {A B A' B' : Option Addr} {n c m d n' c' m' d' : Nat}
end
end Go.Proofs.YtoiopnmphbnjaaaGreatDoor
namespace Go.Proofs.YtoiopnmphbnjaaaGreatDoor
open Go.RowKit
set_option linter.unusedSimpArgs false
set_option linter.unusedVariables false
set_option maxRecDepth 20000
attribute [local irreducible] nv wp win plainB validR valR canR
/-! ## package chain: Check -/
/-- short numbers -/
def Short (n : Nat) (R : Nat → Rw) : Prop := ∀ k, k < n → (R k).2.1.length ≤ 1000 ∧ (R k).2.2.length ≤ 1000
end Go.Proofs.YtoiopnmphbnjaaaGreatDoor
