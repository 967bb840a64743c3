/- Contracts of functions and lemmas, used by the proofs of the given statements. No condition beyond those that each lemma names. -/
import Derived.Test.YtedopalmfakeaaaJCubeCnt
namespace Go.Proofs.Ytedopalmfakeaaa
open Go.RowKit Go.Sort
set_option linter.unusedSimpArgs false
set_option linter.unusedVariables false
set_option maxRecDepth 20000
/-! ## package prime: the comparison of primes -/
attribute [local irreducible] pop popc
set_option maxHeartbeats 16000000 in
theorem primes2_any (a b : Cn) (w : World) (ha : okN a) (hb : okN b) :
    Calls Try.prog 120 #[cbv (zc a), cbv (zc b)] w fun e w' => e = .returned (.int .i64 (cfN a b)) ∧ ∃ q os, w' = grow (w.drewN q) os := by
  have e1 := i64_or a.1 a.2 (by have := ha.1; omega) (by have := ha.2.1; omega)
  have e2 := i64_or b.1 b.2 (by have := hb.1; omega) (by have := hb.2.1; omega)
  have l1 := okN_or ha
  have l2 := okN_or hb
  rw [cfN_or, ← szN_pop ha, ← szN_pop hb]
  obtain ⟨a1, a2⟩ := a
  obtain ⟨b1, b2⟩ := b
  simp only at e1 e2 l1 l2 ⊢
  clear ha hb
  obtain ⟨s1, hs1⟩ : ∃ s, s = a1 ||| a2 := ⟨_, rfl⟩
  obtain ⟨s2, hs2⟩ : ∃ s, s = b1 ||| b2 := ⟨_, rfl⟩
  rw [← hs1] at e1 l1 ⊢
  rw [← hs2] at e2 l2 ⊢
  obtain ⟨x, hx⟩ : ∃ x, x = cmpZ (popc s1 : Nat) (popc s2 : Nat) := ⟨_, rfl⟩
  obtain ⟨y, hy⟩ : ∃ x, x = cmpZ (a1 : Int) (b1 : Int) := ⟨_, rfl⟩
  obtain ⟨z, hz⟩ : ∃ x, x = cmpZ (a2 : Int) (b2 : Int) := ⟨_, rfl⟩
  obtain ⟨v, hv⟩ : ∃ v, v = orI [x, y, z] := ⟨_, rfl⟩
  obtain ⟨p1, hp1⟩ : ∃ p, p = popc s1 := ⟨_, rfl⟩
  obtain ⟨p2, hp2⟩ : ∃ p, p = popc s2 := ⟨_, rfl⟩
  have w1 : IntKind.u64.wrap (s1 : Int) = (s1 : Int) := by rw [IntKind.wrap_u64]; omega
  have w2 : IntKind.u64.wrap (s2 : Int) = (s2 : Int) := by rw [IntKind.wrap_u64]; omega
  have K1 : Hid (∀ W, Calls Try.prog 76 #[.int .u64 (s1 : Int)] W fun e w' => e = .returned (.int .i64 (p1 : Nat)) ∧ W = w') := fun W => by rw [hp1]; exact oc_any _ l1 W
  have K2 : Hid (∀ W, Calls Try.prog 76 #[.int .u64 (s2 : Int)] W fun e w' => e = .returned (.int .i64 (p2 : Nat)) ∧ W = w') := fun W => by rw [hp2]; exact oc_any _ l2 W
  have K3 : Hid (∀ W, Calls Try.prog 115 #[.int .i64 (p1 : Nat), .int .i64 (p2 : Nat)] W fun e w' => e = .returned (.int .i64 x) ∧ W = w') := fun W => by rw [hx, hp1, hp2]; exact cmpZ_any _ _ W
  have K4 : Hid (∀ W, Calls Try.prog 115 #[.int .i64 (a1 : Int), .int .i64 (b1 : Int)] W fun e w' => e = .returned (.int .i64 y) ∧ W = w') := fun W => by rw [hy]; exact cmpZ_any _ _ W
  have K5 : Hid (∀ W, Calls Try.prog 115 #[.int .i64 (a2 : Int), .int .i64 (b2 : Int)] W fun e w' => e = .returned (.int .i64 z) ∧ W = w') := fun W => by rw [hz]; exact cmpZ_any _ _ W
  have K6 : Hid (∀ g W, W.cell? ⟨g, 0, none⟩ = some (.int .i64 x) → W.cell? ⟨g, 1, none⟩ = some (.int .i64 y) → W.cell? ⟨g, 2, none⟩ = some (.int .i64 z) → Calls Try.prog 114 #[.slice (some ⟨g, 0, none⟩) 3 3] W fun e w' => e = .returned (.int .i64 v) ∧ W = w') := fun g W h0 h1 h2 => by rw [hv]; exact cmpOr3_any g x y z W h0 h1 h2
  rw [← hx, ← hy, ← hz, ← hv]
  clear hx hy hz hv hp1 hp2 hs1 hs2 l1 l2
  go_enter Try.func120, Try.ntmps120
  go_wp2
  go_region_held3 (fun W => W.cell? ⟨w.heap.size, 0, none⟩ = some (.int .i64 (a1 : Int)) ∧ W.cell? ⟨w.heap.size, 1, none⟩ = some (.int .i64 (a2 : Int)) ∧ W.cell? ⟨w.heap.size + 1, 0, none⟩ = some (.int .i64 (b1 : Int)) ∧ W.cell? ⟨w.heap.size + 1, 1, none⟩ = some (.int .i64 (b2 : Int))) (go_keep)
    (first | ((go_at_call 76; (with_reducible refine (K1.out _).mono ?_); rintro e _ ⟨rfl, rfl⟩)) | ((go_at_call 76; (with_reducible refine (K2.out _).mono ?_); rintro e _ ⟨rfl, rfl⟩)) | ((go_at_call 115; (with_reducible refine (K3.out _).mono ?_); rintro e _ ⟨rfl, rfl⟩)) | ((go_at_call 115; (with_reducible refine (K4.out _).mono ?_); rintro e _ ⟨rfl, rfl⟩)) | ((go_at_call 115; (with_reducible refine (K5.out _).mono ?_); rintro e _ ⟨rfl, rfl⟩)) | ((go_at_call 114; (with_reducible refine (K6.out _ _ (tri_cells _ _ _ _ _ (by simp)).1 (tri_cells _ _ _ _ _ (by simp)).2.1 (tri_cells _ _ _ _ _ (by simp)).2.2).mono ?_); rintro e _ ⟨rfl, rfl⟩)) | ((go_at_call 114; (with_reducible refine (K6.out _ _ (tri_cellsD _ _ _ _ _ (by simp)).1 (tri_cellsD _ _ _ _ _ (by simp)).2.1 (tri_cellsD _ _ _ _ _ (by simp)).2.2).mono ?_); rintro e _ ⟨rfl, rfl⟩)) | fail)
  all_goals
    go_wp2
    go_ret
    exact ⟨rfl, grow_of (by exact (by (skip); repeat' (first | (with_reducible exact Below.refl _ _) | (with_reducible assumption) | (with_reducible refine Below.alloc ?_ ?_ _) | (with_reducible refine Below.drew ?_) | (with_reducible refine below_drewN ?_ _) | (with_reducible refine Below.setCell ?_ ?_ _) | (with_reducible refine Below.trans ?_ (Below.mono (by with_reducible assumption) ?_)) | omega | (simp only [World.size_alloc, World.size_setCell, World.size_drew, size_drewN']; omega) | go_size))) (by first | exact Nat.le_add_right _ _ | (show w.drawn ≤ _; simp [World.drew, World.drewN, World.alloc, World.setCell]; done))⟩
theorem cmpP : CmpC 120 := fun a b w ha hb => primes2_any a b w ha hb
end Go.Proofs.Ytedopalmfakeaaa
