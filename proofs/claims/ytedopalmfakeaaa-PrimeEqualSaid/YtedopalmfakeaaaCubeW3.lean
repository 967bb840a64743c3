/- Contracts of functions and lemmas, used by the proofs of the given statements. No condition beyond those that each lemma names. -/
import Derived.Test.YtedopalmfakeaaaCubeW2
namespace Go.Proofs.Ytedopalmfakeaaa
open Go.RowKit
set_option linter.unusedSimpArgs false
set_option linter.unusedVariables false
abbrev chk2 (a b : Cb) : Int := chkL [a, b]
theorem chk2_of_ok {x y : Cn} (hx : okN x) (hy : okN y) : chk2 (zc x) (zc y) = 0 := chkL_of_ok (m := [x, y]) (by simp [hx, hy])
/-- the two cubes of a call checkAll(a, b) lie in a new block -/
theorem rdc_two {w : World} {g : Nat} {a b : Cb} (h0 : w.cell? ⟨g, 0, none⟩ = some (.int .i64 a.1)) (h1 : w.cell? ⟨g, 1, none⟩ = some (.int .i64 a.2)) (h2 : w.cell? ⟨g, 2, none⟩ = some (.int .i64 b.1)) (h3 : w.cell? ⟨g, 3, none⟩ = some (.int .i64 b.2)) :
    RdC w w.heap.size (some ⟨g, 0, none⟩) [a, b] := by
  refine ⟨rfl, fun _ => ⟨g, 0, rfl, lt_of_cell h0, fun j u hu => ?_⟩⟩
  rw [Nat.zero_add]
  match j, hu with
  | 0, hu => simp [cbs, cbc] at hu; subst hu; exact h0
  | 1, hu => simp [cbs, cbc] at hu; subst hu; exact h1
  | 2, hu => simp [cbs, cbc] at hu; subst hu; exact h2
  | 3, hu => simp [cbs, cbc] at hu; subst hu; exact h3
  | j + 4, hu => simp [cbs, cbc] at hu
theorem rdc_new2 (W : World) (g : Nat) (a b : Cb) (hg : W.heap.size = g) (T : TypeId) :
    RdC (W.alloc (.cells #[.int .i64 a.1, .int .i64 a.2, .int .i64 b.1, .int .i64 b.2] T)) (W.alloc (.cells #[.int .i64 a.1, .int .i64 a.2, .int .i64 b.1, .int .i64 b.2] T)).heap.size (some ⟨g, 0, none⟩) [a, b] := by
  subst hg
  exact rdc_two (by simp [go_sem]) (by simp [go_sem]) (by simp [go_sem]) (by simp [go_sem])
theorem both_ok (a b : Cn) (ha : okN a) (hb : okN b) (W : World) (g : Nat) (hg : W.heap.size = g) (T : TypeId) : Calls Try.prog 72 #[.slice (some ⟨g, 0, none⟩) 2 2] (W.alloc (.cells #[.int .i64 a.1, .int .i64 a.2, .int .i64 b.1, .int .i64 b.2] T))
    fun e w' => e = .returned .nilIface ∧ Below (W.alloc (.cells #[.int .i64 a.1, .int .i64 a.2, .int .i64 b.1, .int .i64 b.2] T)).heap.size (W.alloc (.cells #[.int .i64 a.1, .int .i64 a.2, .int .i64 b.1, .int .i64 b.2] T)) w' :=
  ok_case (checkAll_any _ [zc a, zc b] 2 2 _ rfl (by omega) (rdc_new2 _ _ (zc a) (zc b) hg _)) (chk2_of_ok ha hb)
set_option maxHeartbeats 400000 in
theorem implies_ok (a b : Cn) (ha : okN a) (hb : okN b) (w : World) : Calls Try.prog 28 #[cbv (zc a), cbv (zc b)] w fun e w' => e = .returned (.tuple #[.bool (wiN a b), .nilIface]) ∧ Below w.heap.size w w' := by
  go_enter Try.func28, Try.ntmps28
  go_wp2_with (first | (go_at_call 72; (with_reducible refine (both_ok a b ha hb _ _ (by simp) _).mono ?_); rintro e w1 ⟨rfl, hb1⟩; obtain ⟨hb1c, hb1f⟩ := bcell hb1; have hb1z := Below.size hb1; try simp only [World.size_alloc, World.size_setCell, World.size_drew] at hb1z) | (go_at_call 74; (with_reducible refine (within_any a b ha hb _).mono ?_); rintro e w2 ⟨rfl, hb2⟩; obtain ⟨hb2c, hb2f⟩ := bcell hb2; obtain ⟨hb2d, hb2e⟩ := bcellB hb2 hb1z; have hb2z := Nat.le_trans hb1z (lt_size hb2)))
  go_returns
  exact ⟨rfl, (by have z0 := Below.size hb1; have z1 := Below.size hb2; (try simp only [World.size_alloc, World.size_setCell, World.size_drew, size_drewN'] at z0 z1 ⊢; skip); repeat' (first | (with_reducible exact Below.refl _ _) | (with_reducible assumption) | (with_reducible refine Below.alloc ?_ ?_ _) | (with_reducible refine Below.drew ?_) | (with_reducible refine below_drewN ?_ _) | (with_reducible refine Below.setCell ?_ ?_ _) | (with_reducible refine Below.trans ?_ (Below.mono (by with_reducible assumption) ?_)) | omega | (simp only [World.size_alloc, World.size_setCell, World.size_drew, size_drewN']; omega) | go_size))⟩
/-! ## Holds -/
theorem check_ok (c : Cn) (hc : okN c) (w : World) : Calls Try.prog 22 #[cbv (zc c)] w fun e w' => e = .returned .nilIface ∧ Below w.heap.size w w' := ok_case (check_any (zc c) w) (chk_of_ok hc)
theorem check_no (c : Cb) (hc : chk c ≠ 0) (w : World) : Calls Try.prog 22 #[cbv c] w fun e w' => e = .returned (erV (chk c)) ∧ Below w.heap.size w w' := no_case (check_any c w) hc
theorem nat_eqn (m n : Nat) : ((m : Int) == (n : Int)) = (m == n) := by
  rw [Bool.eq_iff_iff]; simp; omega
end Go.Proofs.Ytedopalmfakeaaa
