/- Contracts of functions and lemmas, used by the proofs of the given statements. No condition beyond those that each lemma names. -/
import Derived.Test.YtedopalmfakeaaaJCubeCnt
import Derived.Test.YtedopalmfakeaaaCubeC6
namespace Go.Proofs.Ytedopalmfakeaaa
open Go.RowKit
set_option linter.unusedSimpArgs false
set_option linter.unusedVariables false
set_option maxRecDepth 20000
attribute [local irreducible] pop popc
/-! ## the reference's Before; Disjoint of both -/
set_option maxHeartbeats 1000000 in
theorem before_any (a b : Cn) (ha : okN a) (hb : okN b) (w : World) : Calls Try.prog 116 #[cbv (zc a), cbv (zc b)] w fun e w' => e = .returned (.bool (ltN a b)) ∧ Below w.heap.size w w' := by
  have K1 := Lib.hid (size_any a ha)
  have K2 := Lib.hid (size_any b hb)
  have HL : Hid (ltN a b = decide (szN a < szN b ∨ szN a = szN b ∧ (a.1 < b.1 ∨ a.1 = b.1 ∧ a.2 < b.2))) := rfl
  change Hid (∀ W, Calls Try.prog 45 #[cbv (zc a)] W fun e w' => e = .returned (.int .i64 ((szN a : Nat) : Int)) ∧ Below W.heap.size W w') at K1
  change Hid (∀ W, Calls Try.prog 45 #[cbv (zc b)] W fun e w' => e = .returned (.int .i64 ((szN b : Nat) : Int)) ∧ Below W.heap.size W w') at K2
  obtain ⟨a1, a2⟩ := a
  obtain ⟨b1, b2⟩ := b
  simp only at HL
  generalize szN (a1, a2) = s1 at *
  generalize szN (b1, b2) = s2 at *
  go_enter Try.func116, Try.ntmps116
  go_wp2
  have f1 := fun y : Sub ((w.alloc (.cells #[.int .i64 (a1 : Int), .int .i64 (a2 : Int)] 23)).alloc (.cells #[.int .i64 (b1 : Int), .int .i64 (b2 : Int)] 23)) => y.cell (b := w.heap.size) (o := 0) (u := .int .i64 (a1 : Int)) (by simp [go_sem])
  have f2 := fun y : Sub ((w.alloc (.cells #[.int .i64 (a1 : Int), .int .i64 (a2 : Int)] 23)).alloc (.cells #[.int .i64 (b1 : Int), .int .i64 (b2 : Int)] 23)) => y.cell (b := w.heap.size) (o := 1) (u := .int .i64 (a2 : Int)) (by simp [go_sem])
  have f3 := fun y : Sub ((w.alloc (.cells #[.int .i64 (a1 : Int), .int .i64 (a2 : Int)] 23)).alloc (.cells #[.int .i64 (b1 : Int), .int .i64 (b2 : Int)] 23)) => y.cell (b := w.heap.size + 1) (o := 0) (u := .int .i64 (b1 : Int)) (by simp [go_sem])
  have f4 := fun y : Sub ((w.alloc (.cells #[.int .i64 (a1 : Int), .int .i64 (a2 : Int)] 23)).alloc (.cells #[.int .i64 (b1 : Int), .int .i64 (b2 : Int)] 23)) => y.cell (b := w.heap.size + 1) (o := 1) (u := .int .i64 (b2 : Int)) (by simp [go_sem])
  ((refine wp_region_quiet_bel (by kernel_rfl) (by kernel_rfl) ?_); (repeat (go_big_quiet_step (first | (go_at_call 45; with_reducible exact Calls.quiet_bel (K1.out _)) | (go_at_call 45; with_reducible exact Calls.quiet_bel (K2.out _))))); (refine wpQuiet_nil ?_); rintro w5 ⟨⟨_, hb5⟩, rfl⟩; (try dsimp only))
  have hb5z := hb5.size
  simp only [World.size_alloc] at hb5z
  have x1 : w5.cell? ⟨w.heap.size, 0, none⟩ = some (.int .i64 (a1 : Int)) := (below_at hb5 w.heap.size 0 (by simp; omega)).trans (by simp [go_sem])
  have x2 : w5.cell? ⟨w.heap.size, 1, none⟩ = some (.int .i64 (a2 : Int)) := (below_at hb5 w.heap.size 1 (by simp; omega)).trans (by simp [go_sem])
  have x3 : w5.cell? ⟨w.heap.size + 1, 0, none⟩ = some (.int .i64 (b1 : Int)) := (below_at hb5 (w.heap.size + 1) 0 (by simp)).trans (by simp [go_sem])
  have x4 : w5.cell? ⟨w.heap.size + 1, 1, none⟩ = some (.int .i64 (b2 : Int)) := (below_at hb5 (w.heap.size + 1) 1 (by simp)).trans (by simp [go_sem])
  clear f1 f2 f3 f4
  by_cases hs : s1 = s2
  · subst hs
    have e0 : ((s1 : Int) != (s1 : Int)) = false := by simp
    by_cases h1 : a1 = b1
    · subst h1
      have e1 : ((a1 : Int) != (a1 : Int)) = false := by simp
      have HV : Hid (ltN (a1, a2) (a1, b2) = decide (a2 < b2)) := by show _ = _; rw [HL.out]; simp
      clear HL
      go_wp2
      go_ret
      exact ⟨by rw [HV.out]; rfl, (by have z0 := Below.size hb5; (try simp only [World.size_alloc, World.size_setCell, World.size_drew, size_drewN'] at z0 ⊢; skip); repeat' (first | (with_reducible exact Below.refl _ _) | (with_reducible assumption) | (with_reducible refine Below.alloc ?_ ?_ _) | (with_reducible refine Below.drew ?_) | (with_reducible refine below_drewN ?_ _) | (with_reducible refine Below.setCell ?_ ?_ _) | (with_reducible refine Below.trans ?_ (Below.mono (by with_reducible assumption) ?_)) | omega | (simp only [World.size_alloc, World.size_setCell, World.size_drew, size_drewN']; omega) | go_size))⟩
    · have e1 : ((a1 : Int) != (b1 : Int)) = true := by simp; omega
      have HV : Hid (ltN (a1, a2) (b1, b2) = decide (a1 < b1)) := by show _ = _; rw [HL.out]; simp [h1]
      clear HL
      go_wp2
      go_ret
      exact ⟨by rw [HV.out]; rfl, (by have z0 := Below.size hb5; (try simp only [World.size_alloc, World.size_setCell, World.size_drew, size_drewN'] at z0 ⊢; skip); repeat' (first | (with_reducible exact Below.refl _ _) | (with_reducible assumption) | (with_reducible refine Below.alloc ?_ ?_ _) | (with_reducible refine Below.drew ?_) | (with_reducible refine below_drewN ?_ _) | (with_reducible refine Below.setCell ?_ ?_ _) | (with_reducible refine Below.trans ?_ (Below.mono (by with_reducible assumption) ?_)) | omega | (simp only [World.size_alloc, World.size_setCell, World.size_drew, size_drewN']; omega) | go_size))⟩
  · have e0 : ((s1 : Int) != (s2 : Int)) = true := by simp; omega
    have HV : Hid (ltN (a1, a2) (b1, b2) = decide (s1 < s2)) := by show _ = _; rw [HL.out]; simp [hs]
    clear HL
    go_wp2
    have g1 := fun y : Sub w5 => y.cell x1
    have g2 := fun y : Sub w5 => y.cell x2
    have g3 := fun y : Sub w5 => y.cell x3
    have g4 := fun y : Sub w5 => y.cell x4
    ((refine wp_region_quiet_bel (by kernel_rfl) (by kernel_rfl) ?_); (repeat (go_big_quiet_step (first | (go_at_call 45; with_reducible exact Calls.quiet_bel (K1.out _)) | (go_at_call 45; with_reducible exact Calls.quiet_bel (K2.out _))))); (refine wpQuiet_nil ?_); rintro w6 ⟨⟨_, hb6⟩, rfl⟩; (try dsimp only))
    go_wp2
    go_ret
    exact ⟨by rw [HV.out]; rfl, (by have z0 := Below.size hb5; have z1 := Below.size hb6; (try simp only [World.size_alloc, World.size_setCell, World.size_drew, size_drewN'] at z0 z1 ⊢; skip); repeat' (first | (with_reducible exact Below.refl _ _) | (with_reducible assumption) | (with_reducible refine Below.alloc ?_ ?_ _) | (with_reducible refine Below.drew ?_) | (with_reducible refine below_drewN ?_ _) | (with_reducible refine Below.setCell ?_ ?_ _) | (with_reducible refine Below.trans ?_ (Below.mono (by with_reducible assumption) ?_)) | omega | (simp only [World.size_alloc, World.size_setCell, World.size_drew, size_drewN']; omega) | go_size))⟩
end Go.Proofs.Ytedopalmfakeaaa
