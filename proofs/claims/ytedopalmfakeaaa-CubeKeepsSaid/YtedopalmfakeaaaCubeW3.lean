/- Contracts of functions and lemmas, used by the proofs of the given statements. No condition beyond those that each lemma names. -/
import Derived.Test.YtedopalmfakeaaaCubeW2
namespace Go.Proofs.Ytedopalmfakeaaa
open Go.RowKit
set_option linter.unusedSimpArgs false
set_option linter.unusedVariables false
abbrev chk2 (a b : Cb) : Int := chkL [a, b]
theorem chk2_ok {a b : Cb} (h : chk2 a b = 0) : ∃ x y : Cn, okN x ∧ okN y ∧ a = zc x ∧ b = zc y := by
  have h1 : chkL [a, b] = 0 := h
  simp only [chkL] at h1
  split at h1
  · rename_i ha
    obtain ⟨x, hx, rfl⟩ := chk_ok ha
    split at h1
    · rename_i hb
      obtain ⟨y, hy, rfl⟩ := chk_ok hb
      exact ⟨x, y, hx, hy, rfl, rfl⟩
    · rename_i hb; exact absurd h1 hb
  · rename_i ha; exact absurd h1 ha
theorem chk2_of_ok {x y : Cn} (hx : okN x) (hy : okN y) : chk2 (zc x) (zc y) = 0 := chkL_of_ok (m := [x, y]) (by simp [hx, hy])
/-- the two cubes of a call checkAll(a, b) lie in a new block -/
theorem rdc_two {w : World} {g : Nat} {a b : Cb} (h0 : w.cell? ⟨g, 0, none⟩ = some (.int .i64 a.1)) (h1 : w.cell? ⟨g, 1, none⟩ = some (.int .i64 a.2)) (h2 : w.cell? ⟨g, 2, none⟩ = some (.int .i64 b.1)) (h3 : w.cell? ⟨g, 3, none⟩ = some (.int .i64 b.2)) :
    RdC w w.heap.size (some ⟨g, 0, none⟩) [a, b] := by
  refine ⟨rfl, fun _ => ⟨g, 0, rfl, lt_of_cell h0, fun j u hu => ?_⟩⟩
  rw [Nat.zero_add]
  match j, hu with
  | 0, hu => simp [cbs, cbc] at hu; subst hu; exact h0
  | 1, hu => simp [cbs, cbc] at hu; subst hu; exact h1
  | 2, hu => simp [cbs, cbc] at hu; subst hu; exact h2
  | 3, hu => simp [cbs, cbc] at hu; subst hu; exact h3
  | j + 4, hu => simp [cbs, cbc] at hu
theorem rdc_new2 (W : World) (g : Nat) (a b : Cb) (hg : W.heap.size = g) (T : TypeId) :
    RdC (W.alloc (.cells #[.int .i64 a.1, .int .i64 a.2, .int .i64 b.1, .int .i64 b.2] T)) (W.alloc (.cells #[.int .i64 a.1, .int .i64 a.2, .int .i64 b.1, .int .i64 b.2] T)).heap.size (some ⟨g, 0, none⟩) [a, b] := by
  subst hg
  exact rdc_two (by simp [go_sem]) (by simp [go_sem]) (by simp [go_sem]) (by simp [go_sem])
theorem both_no (a b : Cb) (h : chk2 a b ≠ 0) (W : World) (g : Nat) (hg : W.heap.size = g) (T : TypeId) : Calls Try.prog 72 #[.slice (some ⟨g, 0, none⟩) 2 2] (W.alloc (.cells #[.int .i64 a.1, .int .i64 a.2, .int .i64 b.1, .int .i64 b.2] T))
    fun e w' => e = .returned (erV (chk2 a b)) ∧ Below (W.alloc (.cells #[.int .i64 a.1, .int .i64 a.2, .int .i64 b.1, .int .i64 b.2] T)).heap.size (W.alloc (.cells #[.int .i64 a.1, .int .i64 a.2, .int .i64 b.1, .int .i64 b.2] T)) w' :=
  no_case (checkAll_any _ [a, b] 2 2 _ rfl (by omega) (rdc_new2 _ _ _ _ hg _)) h
theorem both_ok (a b : Cn) (ha : okN a) (hb : okN b) (W : World) (g : Nat) (hg : W.heap.size = g) (T : TypeId) : Calls Try.prog 72 #[.slice (some ⟨g, 0, none⟩) 2 2] (W.alloc (.cells #[.int .i64 a.1, .int .i64 a.2, .int .i64 b.1, .int .i64 b.2] T))
    fun e w' => e = .returned .nilIface ∧ Below (W.alloc (.cells #[.int .i64 a.1, .int .i64 a.2, .int .i64 b.1, .int .i64 b.2] T)).heap.size (W.alloc (.cells #[.int .i64 a.1, .int .i64 a.2, .int .i64 b.1, .int .i64 b.2] T)) w' :=
  ok_case (checkAll_any _ [zc a, zc b] 2 2 _ rfl (by omega) (rdc_new2 _ _ (zc a) (zc b) hg _)) (chk2_of_ok ha hb)
set_option maxHeartbeats 400000 in
theorem implies_bad (a b : Cb) (h : chk2 a b ≠ 0) (w : World) : Calls Try.prog 28 #[cbv a, cbv b] w fun e w' => e = .returned (.tuple #[.bool false, erV (chk2 a b)]) ∧ Below w.heap.size w w' := by
  have HH := Lib.hid h
  clear h
  go_enter Try.func28, Try.ntmps28
  go_wp2_with (go_at_call 72; (with_reducible refine (both_no a b HH.out _ _ (by simp) _).mono ?_); rintro e w1 ⟨rfl, hb1⟩; obtain ⟨hb1c, hb1f⟩ := bcell hb1; have hb1z := Below.size hb1; try simp only [World.size_alloc, World.size_setCell, World.size_drew] at hb1z)
  go_returns
  exact ⟨rfl, (by have z0 := Below.size hb1; (try simp only [World.size_alloc, World.size_setCell, World.size_drew, size_drewN'] at z0 ⊢; skip); repeat' (first | (with_reducible exact Below.refl _ _) | (with_reducible assumption) | (with_reducible refine Below.alloc ?_ ?_ _) | (with_reducible refine Below.drew ?_) | (with_reducible refine below_drewN ?_ _) | (with_reducible refine Below.setCell ?_ ?_ _) | (with_reducible refine Below.trans ?_ (Below.mono (by with_reducible assumption) ?_)) | omega | (simp only [World.size_alloc, World.size_setCell, World.size_drew, size_drewN']; omega) | go_size))⟩
set_option maxHeartbeats 400000 in
theorem implies_ok (a b : Cn) (ha : okN a) (hb : okN b) (w : World) : Calls Try.prog 28 #[cbv (zc a), cbv (zc b)] w fun e w' => e = .returned (.tuple #[.bool (wiN a b), .nilIface]) ∧ Below w.heap.size w w' := by
  go_enter Try.func28, Try.ntmps28
  go_wp2_with (first | (go_at_call 72; (with_reducible refine (both_ok a b ha hb _ _ (by simp) _).mono ?_); rintro e w1 ⟨rfl, hb1⟩; obtain ⟨hb1c, hb1f⟩ := bcell hb1; have hb1z := Below.size hb1; try simp only [World.size_alloc, World.size_setCell, World.size_drew] at hb1z) | (go_at_call 74; (with_reducible refine (within_any a b ha hb _).mono ?_); rintro e w2 ⟨rfl, hb2⟩; obtain ⟨hb2c, hb2f⟩ := bcell hb2; obtain ⟨hb2d, hb2e⟩ := bcellB hb2 hb1z; have hb2z := Nat.le_trans hb1z (lt_size hb2)))
  go_returns
  exact ⟨rfl, (by have z0 := Below.size hb1; have z1 := Below.size hb2; (try simp only [World.size_alloc, World.size_setCell, World.size_drew, size_drewN'] at z0 z1 ⊢; skip); repeat' (first | (with_reducible exact Below.refl _ _) | (with_reducible assumption) | (with_reducible refine Below.alloc ?_ ?_ _) | (with_reducible refine Below.drew ?_) | (with_reducible refine below_drewN ?_ _) | (with_reducible refine Below.setCell ?_ ?_ _) | (with_reducible refine Below.trans ?_ (Below.mono (by with_reducible assumption) ?_)) | omega | (simp only [World.size_alloc, World.size_setCell, World.size_drew, size_drewN']; omega) | go_size))⟩
set_option maxHeartbeats 400000 in
theorem meet_bad (a b : Cb) (h : chk2 a b ≠ 0) (w : World) : Calls Try.prog 29 #[cbv a, cbv b] w fun e w' => e = .returned (.tuple #[cbv (0, 0), .bool false, erV (chk2 a b)]) ∧ Below w.heap.size w w' := by
  have HH := Lib.hid h
  clear h
  go_enter Try.func29, Try.ntmps29
  go_wp2_with (go_at_call 72; (with_reducible refine (both_no a b HH.out _ _ (by simp) _).mono ?_); rintro e w1 ⟨rfl, hb1⟩; obtain ⟨hb1c, hb1f⟩ := bcell hb1; have hb1z := Below.size hb1; try simp only [World.size_alloc, World.size_setCell, World.size_drew] at hb1z)
  refine bodyPost_ret (v := (.tuple #[cbv (0, 0), .bool false, erV (chk2 a b)])) (by simp [results, Try.results29, go_sem, hb1c]) rfl ?_
  exact ⟨rfl, (by have z0 := Below.size hb1; (try simp only [World.size_alloc, World.size_setCell, World.size_drew, size_drewN'] at z0 ⊢; skip); repeat' (first | (with_reducible exact Below.refl _ _) | (with_reducible assumption) | (with_reducible refine Below.alloc ?_ ?_ _) | (with_reducible refine Below.drew ?_) | (with_reducible refine below_drewN ?_ _) | (with_reducible refine Below.setCell ?_ ?_ _) | (with_reducible refine Below.trans ?_ (Below.mono (by with_reducible assumption) ?_)) | omega | (simp only [World.size_alloc, World.size_setCell, World.size_drew, size_drewN']; omega) | go_size))⟩
set_option maxHeartbeats 400000 in
theorem meet_ap (a b : Cn) (ha : okN a) (hb : okN b) (hp : apN a b = true) (w : World) : Calls Try.prog 29 #[cbv (zc a), cbv (zc b)] w fun e w' => e = .returned (.tuple #[cbv (zc (0, 0)), .bool false, .nilIface]) ∧ Below w.heap.size w w' := by
  go_enter Try.func29, Try.ntmps29
  go_wp2_with (first | (go_at_call 72; (with_reducible refine (both_ok a b ha hb _ _ (by simp) _).mono ?_); rintro e w1 ⟨rfl, hb1⟩; obtain ⟨hb1c, hb1f⟩ := bcell hb1; have hb1z := Below.size hb1; try simp only [World.size_alloc, World.size_setCell, World.size_drew] at hb1z) | (go_at_call 75; (with_reducible refine (apart_any a b ha hb _).mono ?_); rintro e w2 ⟨rfl, hb2⟩; obtain ⟨hb2c, hb2f⟩ := bcell hb2; obtain ⟨hb2d, hb2e⟩ := bcellB hb2 hb1z; have hb2z := Nat.le_trans hb1z (lt_size hb2)))
  refine bodyPost_ret (v := (.tuple #[cbv (zc (0, 0)), .bool false, .nilIface])) (by simp [results, Try.results29, go_sem, hb1c, hb2d]) rfl ?_
  exact ⟨rfl, (by have z0 := Below.size hb1; have z1 := Below.size hb2; (try simp only [World.size_alloc, World.size_setCell, World.size_drew, size_drewN'] at z0 z1 ⊢; skip); repeat' (first | (with_reducible exact Below.refl _ _) | (with_reducible assumption) | (with_reducible refine Below.alloc ?_ ?_ _) | (with_reducible refine Below.drew ?_) | (with_reducible refine below_drewN ?_ _) | (with_reducible refine Below.setCell ?_ ?_ _) | (with_reducible refine Below.trans ?_ (Below.mono (by with_reducible assumption) ?_)) | omega | (simp only [World.size_alloc, World.size_setCell, World.size_drew, size_drewN']; omega) | go_size))⟩
set_option maxHeartbeats 400000 in
theorem meet_no (a b : Cn) (ha : okN a) (hb : okN b) (hp : apN a b = false) (w : World) : Calls Try.prog 29 #[cbv (zc a), cbv (zc b)] w fun e w' => e = .returned (.tuple #[cbv (zc (a.1 ||| b.1, a.2 ||| b.2)), .bool true, .nilIface]) ∧ Below w.heap.size w w' := by
  have e1 := i64_or a.1 b.1 (by have := ha.1; omega) (by have := hb.1; omega)
  have e2 := i64_or a.2 b.2 (by have := ha.2.1; omega) (by have := hb.2.1; omega)
  go_enter Try.func29, Try.ntmps29
  go_wp2_with (first | (go_at_call 72; (with_reducible refine (both_ok a b ha hb _ _ (by simp) _).mono ?_); rintro e w1 ⟨rfl, hb1⟩; obtain ⟨hb1c, hb1f⟩ := bcell hb1; have hb1z := Below.size hb1; try simp only [World.size_alloc, World.size_setCell, World.size_drew] at hb1z) | (go_at_call 75; (with_reducible refine (apart_any a b ha hb _).mono ?_); rintro e w2 ⟨rfl, hb2⟩; obtain ⟨hb2c, hb2f⟩ := bcell hb2; obtain ⟨hb2d, hb2e⟩ := bcellB hb2 hb1z; have hb2z := Nat.le_trans hb1z (lt_size hb2)))
  refine bodyPost_ret (v := (.tuple #[cbv (zc (a.1 ||| b.1, a.2 ||| b.2)), .bool true, .nilIface])) (by simp [results, Try.results29, go_sem, hb1c, hb2d]) rfl ?_
  exact ⟨rfl, (by have z0 := Below.size hb1; have z1 := Below.size hb2; (try simp only [World.size_alloc, World.size_setCell, World.size_drew, size_drewN'] at z0 z1 ⊢; skip); repeat' (first | (with_reducible exact Below.refl _ _) | (with_reducible assumption) | (with_reducible refine Below.alloc ?_ ?_ _) | (with_reducible refine Below.drew ?_) | (with_reducible refine below_drewN ?_ _) | (with_reducible refine Below.setCell ?_ ?_ _) | (with_reducible refine Below.trans ?_ (Below.mono (by with_reducible assumption) ?_)) | omega | (simp only [World.size_alloc, World.size_setCell, World.size_drew, size_drewN']; omega) | go_size))⟩
def meN (a b : Cn) : Cn := if apN a b then (0, 0) else boN a b
theorem meet_ok (a b : Cn) (ha : okN a) (hb : okN b) (w : World) : Calls Try.prog 29 #[cbv (zc a), cbv (zc b)] w fun e w' => e = .returned (.tuple #[cbv (zc (meN a b)), .bool (!apN a b), .nilIface]) ∧ Below w.heap.size w w' := by
  by_cases hp : apN a b = true
  · exact (meet_ap a b ha hb hp w).mono fun e w' ⟨h1, h2⟩ => ⟨by rw [h1, hp, meN, if_pos hp]; rfl, h2⟩
  · have hp' : apN a b = false := by simpa using hp
    exact (meet_no a b ha hb hp' w).mono fun e w' ⟨h1, h2⟩ => ⟨by rw [h1, hp', meN, if_neg hp]; rfl, h2⟩
theorem refMeet_ap (a b : Cn) (ha : okN a) (hb : okN b) (hp : apN a b = true) (w : World) : Calls Try.prog 31 #[cbv (zc a), cbv (zc b)] w fun e w' => e = .returned (.tuple #[cbv (zc (0, 0)), .bool false]) ∧ Below w.heap.size w w' := by
  go_enter Try.func31, Try.ntmps31
  go_wp2_with (first | (go_at_call 77; (with_reducible refine (refMeets_any a b ha hb _).mono ?_); rintro e w1 ⟨rfl, hb1⟩; obtain ⟨hb1c, hb1f⟩ := bcell hb1; have hb1z := Below.size hb1; try simp only [World.size_alloc, World.size_setCell, World.size_drew] at hb1z))
  refine bodyPost_ret (v := (.tuple #[cbv (zc (0, 0)), .bool false])) (by simp [results, Try.results31, go_sem, hb1c]) rfl ?_
  exact ⟨rfl, (by have z0 := Below.size hb1; (try simp only [World.size_alloc, World.size_setCell, World.size_drew, size_drewN'] at z0 ⊢; skip); repeat' (first | (with_reducible exact Below.refl _ _) | (with_reducible assumption) | (with_reducible refine Below.alloc ?_ ?_ _) | (with_reducible refine Below.drew ?_) | (with_reducible refine below_drewN ?_ _) | (with_reducible refine Below.setCell ?_ ?_ _) | (with_reducible refine Below.trans ?_ (Below.mono (by with_reducible assumption) ?_)) | omega | (simp only [World.size_alloc, World.size_setCell, World.size_drew, size_drewN']; omega) | go_size))⟩
theorem refMeet_no (a b : Cn) (ha : okN a) (hb : okN b) (hp : apN a b = false) (w : World) : Calls Try.prog 31 #[cbv (zc a), cbv (zc b)] w fun e w' => e = .returned (.tuple #[cbv (zc (a.1 ||| b.1, a.2 ||| b.2)), .bool true]) ∧ Below w.heap.size w w' := by
  have e1 := i64_or a.1 b.1 (by have := ha.1; omega) (by have := hb.1; omega)
  have e2 := i64_or a.2 b.2 (by have := ha.2.1; omega) (by have := hb.2.1; omega)
  go_enter Try.func31, Try.ntmps31
  go_wp2_with (first | (go_at_call 77; (with_reducible refine (refMeets_any a b ha hb _).mono ?_); rintro e w1 ⟨rfl, hb1⟩; obtain ⟨hb1c, hb1f⟩ := bcell hb1; have hb1z := Below.size hb1; try simp only [World.size_alloc, World.size_setCell, World.size_drew] at hb1z))
  refine bodyPost_ret (v := (.tuple #[cbv (zc (a.1 ||| b.1, a.2 ||| b.2)), .bool true])) (by simp [results, Try.results31, go_sem, hb1c]) rfl ?_
  exact ⟨rfl, (by have z0 := Below.size hb1; (try simp only [World.size_alloc, World.size_setCell, World.size_drew, size_drewN'] at z0 ⊢; skip); repeat' (first | (with_reducible exact Below.refl _ _) | (with_reducible assumption) | (with_reducible refine Below.alloc ?_ ?_ _) | (with_reducible refine Below.drew ?_) | (with_reducible refine below_drewN ?_ _) | (with_reducible refine Below.setCell ?_ ?_ _) | (with_reducible refine Below.trans ?_ (Below.mono (by with_reducible assumption) ?_)) | omega | (simp only [World.size_alloc, World.size_setCell, World.size_drew, size_drewN']; omega) | go_size))⟩
theorem refMeet_ok (a b : Cn) (ha : okN a) (hb : okN b) (w : World) : Calls Try.prog 31 #[cbv (zc a), cbv (zc b)] w fun e w' => e = .returned (.tuple #[cbv (zc (meN a b)), .bool (!apN a b)]) ∧ Below w.heap.size w w' := by
  by_cases hp : apN a b = true
  · exact (refMeet_ap a b ha hb hp w).mono fun e w' ⟨h1, h2⟩ => ⟨by rw [h1, hp, meN, if_pos hp]; rfl, h2⟩
  · have hp' : apN a b = false := by simpa using hp
    exact (refMeet_no a b ha hb hp' w).mono fun e w' ⟨h1, h2⟩ => ⟨by rw [h1, hp', meN, if_neg hp]; rfl, h2⟩

/-! ## Holds -/
theorem check_ok (c : Cn) (hc : okN c) (w : World) : Calls Try.prog 22 #[cbv (zc c)] w fun e w' => e = .returned .nilIface ∧ Below w.heap.size w w' := ok_case (check_any (zc c) w) (chk_of_ok hc)
theorem check_no (c : Cb) (hc : chk c ≠ 0) (w : World) : Calls Try.prog 22 #[cbv c] w fun e w' => e = .returned (erV (chk c)) ∧ Below w.heap.size w w' := no_case (check_any c w) hc
theorem holds_bad (c : Cb) (s : Int) (h : chk c ≠ 0) (w : World) : Calls Try.prog 20 #[cbv c, .int .i64 s] w fun e w' => e = .returned (.tuple #[.bool false, erV (chk c)]) ∧ Below w.heap.size w w' := by
  have HH := Lib.hid h
  clear h
  go_enter Try.func20, Try.ntmps20
  go_wp2_with (go_at_call 22; (with_reducible refine (check_no c HH.out _).mono ?_); rintro e w1 ⟨rfl, hb1⟩; obtain ⟨hb1c, hb1f⟩ := bcell hb1; have hb1z := Below.size hb1; try simp only [World.size_alloc, World.size_setCell, World.size_drew] at hb1z)
  go_returns
  exact ⟨rfl, (by have z0 := Below.size hb1; (try simp only [World.size_alloc, World.size_setCell, World.size_drew, size_drewN'] at z0 ⊢; skip); repeat' (first | (with_reducible exact Below.refl _ _) | (with_reducible assumption) | (with_reducible refine Below.alloc ?_ ?_ _) | (with_reducible refine Below.drew ?_) | (with_reducible refine below_drewN ?_ _) | (with_reducible refine Below.setCell ?_ ?_ _) | (with_reducible refine Below.trans ?_ (Below.mono (by with_reducible assumption) ?_)) | omega | (simp only [World.size_alloc, World.size_setCell, World.size_drew, size_drewN']; omega) | go_size))⟩
theorem holds_out (c : Cn) (s : Int) (h : okN c) (hs : maskB s = false) (w : World) : Calls Try.prog 20 #[cbv (zc c), .int .i64 s] w fun e w' => e = .returned (.tuple #[.bool false, erV 3]) ∧ Below w.heap.size w w' := by
  go_enter Try.func20, Try.ntmps20
  go_wp2_with (first | (go_at_call 22; (with_reducible refine (check_ok c h _).mono ?_); rintro e w1 ⟨rfl, hb1⟩; obtain ⟨hb1c, hb1f⟩ := bcell hb1; have hb1z := Below.size hb1; try simp only [World.size_alloc, World.size_setCell, World.size_drew] at hb1z) | (go_at_call 71; (with_reducible refine (mask_any s _).mono ?_); rintro e _ ⟨rfl, rfl⟩))
  go_returns
  exact ⟨rfl, (by have z0 := Below.size hb1; (try simp only [World.size_alloc, World.size_setCell, World.size_drew, size_drewN'] at z0 ⊢; skip); repeat' (first | (with_reducible exact Below.refl _ _) | (with_reducible assumption) | (with_reducible refine Below.alloc ?_ ?_ _) | (with_reducible refine Below.drew ?_) | (with_reducible refine below_drewN ?_ _) | (with_reducible refine Below.setCell ?_ ?_ _) | (with_reducible refine Below.trans ?_ (Below.mono (by with_reducible assumption) ?_)) | omega | (simp only [World.size_alloc, World.size_setCell, World.size_drew, size_drewN']; omega) | go_size))⟩
theorem holds_ok (c : Cn) (s : Nat) (h : okN c) (hs : s < 16777216) (w : World) : Calls Try.prog 20 #[cbv (zc c), .int .i64 (s : Int)] w fun e w' => e = .returned (.tuple #[.bool (hoN c s), .nilIface]) ∧ Below w.heap.size w w' := by
  have hm : maskB (s : Int) = true := maskB_t (by omega) (by omega)
  have e1 := hoN_eq c s h hs
  go_enter Try.func20, Try.ntmps20
  go_wp2_with (first | (go_at_call 22; (with_reducible refine (check_ok c h _).mono ?_); rintro e w1 ⟨rfl, hb1⟩; obtain ⟨hb1c, hb1f⟩ := bcell hb1; have hb1z := Below.size hb1; try simp only [World.size_alloc, World.size_setCell, World.size_drew] at hb1z) | (go_at_call 71; (with_reducible refine (mask_any (s : Int) _).mono ?_); rintro e _ ⟨rfl, rfl⟩))
  go_returns
  exact ⟨ret_eq (by simp [nat_eq, hoN]), (by have z0 := Below.size hb1; (try simp only [World.size_alloc, World.size_setCell, World.size_drew, size_drewN'] at z0 ⊢; skip); repeat' (first | (with_reducible exact Below.refl _ _) | (with_reducible assumption) | (with_reducible refine Below.alloc ?_ ?_ _) | (with_reducible refine Below.drew ?_) | (with_reducible refine below_drewN ?_ _) | (with_reducible refine Below.setCell ?_ ?_ _) | (with_reducible refine Below.trans ?_ (Below.mono (by with_reducible assumption) ?_)) | omega | (simp only [World.size_alloc, World.size_setCell, World.size_drew, size_drewN']; omega) | go_size))⟩
theorem hoN_ref (c : Cn) (s : Nat) : hoN c s = ((s &&& c.1 == c.1) && (s &&& c.2 == 0)) := by
  unfold hoN
  rw [zero_or, Nat.and_comm c.2 s]
  congr 1
  rw [Bool.eq_iff_iff]
  simp only [beq_iff_eq]
  constructor
  · intro h
    apply Nat.eq_of_testBit_eq
    intro i
    have := congrArg (fun x => Nat.testBit x i) h
    simp only [testBit_ndiff, Nat.zero_testBit] at this
    rw [Nat.testBit_and]
    cases h1 : c.1.testBit i <;> cases h2 : s.testBit i <;> simp_all
  · intro h
    apply Nat.eq_of_testBit_eq
    intro i
    have := congrArg (fun x => Nat.testBit x i) h
    simp only [Nat.testBit_and] at this
    rw [testBit_ndiff, Nat.zero_testBit]
    cases h1 : c.1.testBit i <;> cases h2 : s.testBit i <;> simp_all
theorem nat_eqn (m n : Nat) : ((m : Int) == (n : Int)) = (m == n) := by
  rw [Bool.eq_iff_iff]; simp; omega
theorem refHolds_ok (c : Cn) (s : Nat) (h : okN c) (hs : s < 16777216) (w : World) : Calls Try.prog 24 #[cbv (zc c), .int .i64 (s : Int)] w fun e w' => e = .returned (.bool (hoN c s)) ∧ Below w.heap.size w w' := by
  have e1 := i64_and s c.1 (by omega) (by have := h.1; omega)
  have e2 := i64_and s c.2 (by omega) (by have := h.2.1; omega)
  have HW := Lib.hid (hoN_ref c s)
  generalize s &&& c.1 = x at *
  generalize s &&& c.2 = y at *
  by_cases hx : (x == c.1) = true
  · have hx' : ((x : Int) == (c.1 : Int)) = true := by rw [nat_eqn]; exact hx
    go_enter Try.func24, Try.ntmps24
    go_wp2
    go_ret
    exact ⟨ret_bool (by rw [HW.out, hx]; simp [← nat_eq]), (by (skip); repeat' (first | (with_reducible exact Below.refl _ _) | (with_reducible assumption) | (with_reducible refine Below.alloc ?_ ?_ _) | (with_reducible refine Below.drew ?_) | (with_reducible refine below_drewN ?_ _) | (with_reducible refine Below.setCell ?_ ?_ _) | (with_reducible refine Below.trans ?_ (Below.mono (by with_reducible assumption) ?_)) | omega | (simp only [World.size_alloc, World.size_setCell, World.size_drew, size_drewN']; omega) | go_size))⟩
  · have hx1 : (x == c.1) = false := by simpa using hx
    have hx' : ((x : Int) == (c.1 : Int)) = false := by rw [nat_eqn]; exact hx1
    go_enter Try.func24, Try.ntmps24
    go_wp2
    go_ret
    exact ⟨ret_bool (by rw [HW.out, hx1]; rfl), (by (skip); repeat' (first | (with_reducible exact Below.refl _ _) | (with_reducible assumption) | (with_reducible refine Below.alloc ?_ ?_ _) | (with_reducible refine Below.drew ?_) | (with_reducible refine below_drewN ?_ _) | (with_reducible refine Below.setCell ?_ ?_ _) | (with_reducible refine Below.trans ?_ (Below.mono (by with_reducible assumption) ?_)) | omega | (simp only [World.size_alloc, World.size_setCell, World.size_drew, size_drewN']; omega) | go_size))⟩
end Go.Proofs.Ytedopalmfakeaaa
