/- Contracts of functions and lemmas, used by the proofs of the given statements. No condition beyond those that each lemma names. -/
import Derived.Test.YtglpknhcneggeaaGreatDoorJTrAw
import Derived.Test.YtglpknhcneggeaaGreatDoorBaseEq
import Derived.Test.YtglpknhcneggeaaGreatDoorTrR8
namespace Go.Proofs.YtglpknhcneggeaaGreatDoor
open Go.RowKit
set_option linter.unusedSimpArgs false
set_option linter.unusedVariables false
set_option maxRecDepth 20000
attribute [local irreducible] nv wp win plainB validR valR canR mvE chkM codeC exK maxF dsum
/-! ## what the functions give, whatever the number of the error -/
def outQ (code : Int) (q : Rat) : Rat := if code = 0 then q else 0
def outN' (code : Int) (n : Nat) : Nat := if code = 0 then n else 0
theorem canR0 : canR 0 = (false, [], []) := canR_zero
theorem RdS.zr (w : World) (b0 : Nat) : RdS w b0 zr (canR 0) := RdS.zero w b0
section
variable {w' : World} {b0 base n : Nat} {x : Nat → Rat} {q : Rat} {code : Int} {e : Ending}
theorem RetQe.out (h : RetQe q code e w') : ∃ v, e = .returned (.tuple #[v, errM code]) ∧ RdS w' 0 v (canR (outQ code q)) := by
  unfold RetQe at h
  unfold outQ
  by_cases h0 : code = 0
  · rw [if_pos h0] at h ⊢
    obtain ⟨v, rfl, h⟩ := h
    exact ⟨v, by rw [h0, errM_0], h⟩
  · rw [if_neg h0] at h ⊢
    exact ⟨_, h, RdS.zr _ _⟩
theorem RetQc.out (h : RetQc q code e w') : ∃ v, e = .returned (.tuple #[v, .int .i64 code]) ∧ RdS w' 0 v (canR (outQ code q)) := by
  unfold RetQc at h
  unfold outQ
  by_cases h0 : code = 0
  · rw [if_pos h0] at h ⊢
    obtain ⟨v, rfl, h⟩ := h
    exact ⟨v, by rw [h0], h⟩
  · rw [if_neg h0] at h ⊢
    exact ⟨_, h, RdS.zr _ _⟩
theorem RetVe.out (h : RetVe base n x code e w') : ∃ A c, e = .returned (.tuple #[.slice A (outN' code n) c, errM code]) ∧ RowA w' w'.heap.size A (outN' code n) (can x) := by
  unfold RetVe at h
  unfold outN'
  by_cases h0 : code = 0
  · rw [if_pos h0] at h ⊢
    obtain ⟨A, c, rfl, h⟩ := h
    obtain ⟨V, h1, h2⟩ := OwV.ra h
    exact ⟨A, c, by rw [h0, errM_0], V, fun k hk => (h1 k hk).base (Nat.zero_le _), h2⟩
  · rw [if_neg h0] at h ⊢
    exact ⟨_, _, h, RowA.nil_ _ _ _ _⟩
theorem RetVc.out (h : RetVc base n x code e w') : ∃ A c, e = .returned (.tuple #[.slice A (outN' code n) c, .int .i64 code]) ∧ RowA w' w'.heap.size A (outN' code n) (can x) := by
  unfold RetVc at h
  unfold outN'
  by_cases h0 : code = 0
  · rw [if_pos h0] at h ⊢
    obtain ⟨A, c, rfl, h⟩ := h
    obtain ⟨V, h1, h2⟩ := OwV.ra h
    exact ⟨A, c, by rw [h0], V, fun k hk => (h1 k hk).base (Nat.zero_le _), h2⟩
  · rw [if_neg h0] at h ⊢
    exact ⟨_, _, h, RowA.nil_ _ _ _ _⟩
theorem RowA.raise {A : Option Addr} (h : RowA w' b0 A n (can x)) (hb : b0 ≤ w'.heap.size) : RowA w' w'.heap.size A n (can x) := by
  obtain ⟨V, h1, h2⟩ := h
  exact ⟨V, fun k hk => (h1 k hk).base hb, h2⟩
theorem RetFe.out (h : RetFe b0 base n x code e w') (hb : b0 ≤ w'.heap.size) : ∃ A c, e = .returned (.tuple #[.slice A (outN' code n) c, errM code]) ∧ RowA w' w'.heap.size A (outN' code n) (can x) := by
  unfold RetFe at h
  unfold outN'
  by_cases h0 : code = 0
  · rw [if_pos h0] at h ⊢
    obtain ⟨A, c, rfl, h⟩ := h
    exact ⟨A, c, by rw [h0, errM_0], (OwF.ra h).raise hb⟩
  · rw [if_neg h0] at h ⊢
    exact ⟨_, _, h, RowA.nil_ _ _ _ _⟩
theorem RetFc.out (h : RetFc b0 base n x code e w') (hb : b0 ≤ w'.heap.size) : ∃ A c, e = .returned (.tuple #[.slice A (outN' code n) c, .int .i64 code]) ∧ RowA w' w'.heap.size A (outN' code n) (can x) := by
  unfold RetFc at h
  unfold outN'
  by_cases h0 : code = 0
  · rw [if_pos h0] at h ⊢
    obtain ⟨A, c, rfl, h⟩ := h
    exact ⟨A, c, by rw [h0], (OwF.ra h).raise hb⟩
  · rw [if_neg h0] at h ⊢
    exact ⟨_, _, h, RowA.nil_ _ _ _ _⟩
theorem RetVx.out (h : RetVx n x code e w') : ∃ A c, e = .returned (.tuple #[.slice A (outN' code n) c, errM code]) ∧ RowA w' w'.heap.size A (outN' code n) (can x) := by
  unfold RetVx at h
  unfold outN'
  by_cases h0 : code = 0
  · rw [if_pos h0] at h ⊢
    obtain ⟨A, c, b, rfl, hb, h⟩ := h
    exact ⟨A, c, by rw [h0, errM_0], h.ra.raise hb⟩
  · rw [if_neg h0] at h ⊢
    exact ⟨_, _, h, RowA.nil_ _ _ _ _⟩
theorem RetVxc.out (h : RetVxc n x code e w') : ∃ A c, e = .returned (.tuple #[.slice A (outN' code n) c, .int .i64 code]) ∧ RowA w' w'.heap.size A (outN' code n) (can x) := by
  unfold RetVxc at h
  unfold outN'
  by_cases h0 : code = 0
  · rw [if_pos h0] at h ⊢
    obtain ⟨A, c, b, rfl, hb, h⟩ := h
    exact ⟨A, c, by rw [h0], h.ra.raise hb⟩
  · rw [if_neg h0] at h ⊢
    exact ⟨_, _, h, RowA.nil_ _ _ _ _⟩
end
/-- one fraction as a list -/
theorem RowA.one {W : World} {b0 g : Nat} {s : Bool} {A B : Option Addr} {n c m d : Nat} {r : Rw} (hr : RdS W b0 (rv s A n c B m d) r) (hg : g < W.heap.size) (h0 : W.cell? ⟨g, 0, none⟩ = some (.bool s)) (h1 : W.cell? ⟨g, 1, none⟩ = some (.slice A n c)) (h2 : W.cell? ⟨g, 2, none⟩ = some (.slice B m d)) : RowA W b0 (some ⟨g, 0, none⟩) 1 (fun _ => r) := by
  refine ⟨fun _ => rv s A n c B m d, fun _ _ => hr, rfl, fun _ => ⟨g, 0, rfl, hg, fun j u hu => ?_⟩⟩
  rw [Nat.zero_add]
  match j, hu with
  | 0, hu => simp [cellsV, c3] at hu; subst hu; exact h0
  | 1, hu => simp [cellsV, c3] at hu; subst hu; exact h1
  | 2, hu => simp [cellsV, c3] at hu; subst hu; exact h2
  | j + 3, hu => simp [cellsV, c3] at hu
theorem short_can {n : Nat} {x : Nat → Rat} (h : ∀ k, k < n → Sz 400 (x k)) : ∀ k, k < n → (can x k).2.1.length ≤ 1000000 ∧ (can x k).2.2.length ≤ 1000000 := fun k hk => by
  have := Sz_canR (h k hk)
  show (canR (x k)).2.1.length ≤ _ ∧ (canR (x k)).2.2.length ≤ _
  omega
theorem short_q {q : Rat} (h : Sz 400 q) : (canR q).2.1.length ≤ 1000000 ∧ (canR q).2.2.length ≤ 1000000 := by
  have := Sz_canR h
  omega
end Go.Proofs.YtglpknhcneggeaaGreatDoor
namespace Go.Proofs.YtglpknhcneggeaaGreatDoor
open Go.RowKit
set_option linter.unusedSimpArgs false
set_option linter.unusedVariables false
set_option maxRecDepth 20000
attribute [local irreducible] nv wp win plainB validR valR canR mvE chkM codeC exK maxF dsum
/-! ## TransientSteps -/
theorem outQ_sz {code : Int} {q : Rat} (h : code = 0 → Sz 400 q) : Sz 400 (outQ code q) := by
  unfold outQ
  split
  · exact h (by assumption)
  · exact Sz.zero (by omega)
theorem outN_lt {code : Int} {n k : Nat} (h : k < outN' code n) : code = 0 ∧ k < n := by
  unfold outN' at h
  split at h
  · exact ⟨by assumption, h⟩
  · omega
theorem outN_le' {code : Int} {n : Nat} : outN' code n ≤ n := by unfold outN'; split <;> omega
theorem Small.fastS {c : Chn} (h : Small c) (ok : c.Ok) : Sz 400 c.fast := maxF_sz fun j _ => (h.siz ok).ex j c.nm (Nat.le_refl _)
theorem RowA.up {w : World} {b0 b1 n : Nat} {A : Option Addr} {R : Nat → Rw} (h : RowA w b0 A n R) (hb : b0 ≤ b1) : RowA w b1 A n R := by
  obtain ⟨V, h1, h2⟩ := h
  exact ⟨V, fun k hk => (h1 k hk).base hb, h2⟩
theorem Brief.short {n : Nat} {R : Nat → Rw} (h : Brief n R) : Short n R := fun k hk => by have := h.2 k hk; omega
theorem Small.v0S {c : Chn} (s : Nat) : Sz 400 (c.v0 s) := ((FzL.v0 c).sz (by omega) s).more (by omega)
/-- an answer: a list of fractions and the number of an error -/
def AnsV (z : Int → Value) (m : Nat) (x : Nat → Rat) (code : Int) (e : Ending) (w' : World) : Prop := ∃ A c, e = .returned (.tuple #[.slice A m c, z code]) ∧ RowA w' w'.heap.size A m (can x)
def AnsQ (z : Int → Value) (q : Rat) (code : Int) (e : Ending) (w' : World) : Prop := ∃ v, e = .returned (.tuple #[v, z code]) ∧ RdS w' 0 v (canR q)
abbrev intV (c : Int) : Value := .int .i64 c
end Go.Proofs.YtglpknhcneggeaaGreatDoor
