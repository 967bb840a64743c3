/- Contracts of functions and lemmas, used by the proofs of the given statements. No condition beyond those that each lemma names. -/
import Derived.Test.YtedopalmfakeaaaPrW7
namespace Go.Proofs.Ytedopalmfakeaaa
open Go.RowKit Go.Sort
set_option linter.unusedSimpArgs false
set_option linter.unusedVariables false
set_option maxRecDepth 20000
/-! ## the reference's Check; heavy, valid -/
attribute [local irreducible] pop popc
def codeP (f : FrR) : Int := if codeF f ≠ 0 then codeF f else if 12 < popc (supF f.fr) then 4 else 0
theorem codeP_ok {f : FrR} (h : codeP f = 0) : FrOk f ∧ popc (supF f.fr) ≤ 12 := by
  unfold codeP at h
  split at h
  · contradiction
  · rename_i h1
    split at h
    · cases h
    · rename_i h2
      exact ⟨codeF_ok (by simpa using h1), by omega⟩
theorem FrOk.nat {f : FrR} (ok : FrOk f) : ∃ v : Nat, f.vars = v := ⟨f.vars.toNat, by have := ok.v0; omega⟩
section
variable {w : World} {A : Option Addr} {c : Nat} {f : FrR}
set_option maxHeartbeats 4000000 in
theorem rsup13_ok {v : Nat} (h : FrI w A f) (ok : FrOk f) (hv : f.vars = v) :
    Calls Try.prog 98 #[fv (v : Int) A f.nn c f.top] w fun e w' => e = .returned (.int .i64 (supF f.fr : Nat)) ∧ Below w.heap.size w w' := by
  have K := Lib.hid (fun W (hW : Below w.heap.size w W) => rsupport_ok (c := c) (h.below hW) ok hv)
  generalize supF f.fr = S at *
  generalize f.nn = nn at *
  generalize f.top = tp at *
  clear ok hv h
  go_enter Try.func98, Try.ntmps98
  go_wp2_with fail
  refine (K.out _ (by (skip); repeat' (first | (with_reducible exact Below.refl _ _) | (with_reducible assumption) | (with_reducible refine Below.alloc ?_ ?_ _) | (with_reducible refine Below.drew ?_) | (with_reducible refine below_drewN ?_ _) | (with_reducible refine Below.setCell ?_ ?_ _) | (with_reducible refine Below.trans ?_ (Below.mono (by with_reducible assumption) ?_)) | omega | (simp only [World.size_alloc, World.size_setCell, World.size_drew, size_drewN']; omega) | go_size))).mono ?_
  rintro e w1 ⟨rfl, hb1⟩
  go_wp2_with fail
  go_returns
  exact ⟨rfl, (by have z0 := Below.size hb1; (try simp only [World.size_alloc, World.size_setCell, World.size_drew, size_drewN'] at z0 ⊢; skip); repeat' (first | (with_reducible exact Below.refl _ _) | (with_reducible assumption) | (with_reducible refine Below.alloc ?_ ?_ _) | (with_reducible refine Below.drew ?_) | (with_reducible refine below_drewN ?_ _) | (with_reducible refine Below.setCell ?_ ?_ _) | (with_reducible refine Below.trans ?_ (Below.mono (by with_reducible assumption) ?_)) | omega | (simp only [World.size_alloc, World.size_setCell, World.size_drew, size_drewN']; omega) | go_size))⟩
set_option maxHeartbeats 4000000 in
theorem rcheck13_any (h : FrI w A f) (ht : f.top ≤ 9223372036854775807) :
    Calls Try.prog 59 #[fv f.vars A f.nn c f.top] w fun e w' => e = .returned (.int .i64 (codeP f)) ∧ Below w.heap.size w w' := by
  have K1 := Lib.hid (fun W (hW : Below w.heap.size w W) => rcheck08_any (c := c) (h.below hW) ht)
  by_cases h0 : codeF f = 0
  · have ok := codeF_ok h0
    obtain ⟨v, hv⟩ := ok.nat
    have K2 := Lib.hid (fun W (hW : Below w.heap.size w W) => rsup13_ok (c := c) (h.below hW) ok hv)
    have hS : supF f.fr < 16777216 := (supF_lt ok hv).2
    have K3 := Lib.hid (fun W => refBits_any _ hS W)
    have HP : Hid (codeP f = if 12 < popc (supF f.fr) then 4 else 0) := by
      show _ = _
      unfold codeP
      rw [if_neg (by simpa using h0)]
    rw [h0] at K1
    rw [hv] at K1 ⊢
    generalize codeP f = cp at *
    generalize supF f.fr = S at *
    generalize popc S = pc at *
    generalize f.nn = nn at *
    generalize f.top = tp at *
    clear ok hv h h0 hS
    go_enter Try.func59, Try.ntmps59
    go_wp2_with fail
    refine (K1.out _ (by (skip); repeat' (first | (with_reducible exact Below.refl _ _) | (with_reducible assumption) | (with_reducible refine Below.alloc ?_ ?_ _) | (with_reducible refine Below.drew ?_) | (with_reducible refine below_drewN ?_ _) | (with_reducible refine Below.setCell ?_ ?_ _) | (with_reducible refine Below.trans ?_ (Below.mono (by with_reducible assumption) ?_)) | omega | (simp only [World.size_alloc, World.size_setCell, World.size_drew, size_drewN']; omega) | go_size))).mono ?_
    rintro e w1 ⟨rfl, hb1⟩
    have hb1z := hb1.size
    simp only [World.size_alloc] at hb1z
    have x0 : w1.cell? ⟨w.heap.size, 0, none⟩ = some (.int .i64 (v : Int)) := (below_at hb1 w.heap.size 0 (by simp)).trans (by simp [go_sem])
    have x1 : w1.cell? ⟨w.heap.size, 1, none⟩ = some (.slice A nn c) := (below_at hb1 w.heap.size 1 (by simp)).trans (by simp [go_sem])
    have x2 : w1.cell? ⟨w.heap.size, 2, none⟩ = some (.int .i64 tp) := (below_at hb1 w.heap.size 2 (by simp)).trans (by simp [go_sem])
    have hbA : Below w.heap.size w w1 := (by have z0 := Below.size hb1; (try simp only [World.size_alloc, World.size_setCell, World.size_drew, size_drewN'] at z0 ⊢; skip); repeat' (first | (with_reducible exact Below.refl _ _) | (with_reducible assumption) | (with_reducible refine Below.alloc ?_ ?_ _) | (with_reducible refine Below.drew ?_) | (with_reducible refine below_drewN ?_ _) | (with_reducible refine Below.setCell ?_ ?_ _) | (with_reducible refine Below.trans ?_ (Below.mono (by with_reducible assumption) ?_)) | omega | (simp only [World.size_alloc, World.size_setCell, World.size_drew, size_drewN']; omega) | go_size))
    clear hb1
    go_wp2_with fail
    refine (K2.out _ hbA).mono ?_
    rintro e w2 ⟨rfl, hb2⟩
    clear x0 x1 x2
    go_wp2_with fail
    refine (K3.out _).mono ?_
    rintro e w3 ⟨rfl, rfl⟩
    by_cases hc : 12 < pc
    · have HX : Hid (cp = 4) := by show _ = _; rw [HP.out, if_pos hc]
      go_wp2_with fail
      go_returns
      exact ⟨by rw [HX.out]; rfl, (by have z0 := Below.size hbA; have z1 := Below.size hb2; (try simp only [World.size_alloc, World.size_setCell, World.size_drew, size_drewN'] at z0 z1 ⊢; skip); repeat' (first | (with_reducible exact Below.refl _ _) | (with_reducible assumption) | (with_reducible refine Below.alloc ?_ ?_ _) | (with_reducible refine Below.drew ?_) | (with_reducible refine below_drewN ?_ _) | (with_reducible refine Below.setCell ?_ ?_ _) | (with_reducible refine Below.trans ?_ (Below.mono (by with_reducible assumption) ?_)) | omega | (simp only [World.size_alloc, World.size_setCell, World.size_drew, size_drewN']; omega) | go_size))⟩
    · have HX : Hid (cp = 0) := by show _ = _; rw [HP.out, if_neg hc]
      go_wp2_with fail
      go_returns
      exact ⟨by rw [HX.out]; rfl, (by have z0 := Below.size hbA; have z1 := Below.size hb2; (try simp only [World.size_alloc, World.size_setCell, World.size_drew, size_drewN'] at z0 z1 ⊢; skip); repeat' (first | (with_reducible exact Below.refl _ _) | (with_reducible assumption) | (with_reducible refine Below.alloc ?_ ?_ _) | (with_reducible refine Below.drew ?_) | (with_reducible refine below_drewN ?_ _) | (with_reducible refine Below.setCell ?_ ?_ _) | (with_reducible refine Below.trans ?_ (Below.mono (by with_reducible assumption) ?_)) | omega | (simp only [World.size_alloc, World.size_setCell, World.size_drew, size_drewN']; omega) | go_size))⟩
  · have HP : Hid (codeP f = codeF f) := by
      show _ = _
      unfold codeP
      rw [if_pos h0]
    generalize codeP f = cp at *
    have h1 : (codeF f == 0) = false := by simpa using h0
    generalize codeF f = cf at *
    generalize f.vars = v at *
    generalize f.nn = nn at *
    generalize f.top = tp at *
    clear h
    go_enter Try.func59, Try.ntmps59
    go_wp2_with fail
    refine (K1.out _ (by (skip); repeat' (first | (with_reducible exact Below.refl _ _) | (with_reducible assumption) | (with_reducible refine Below.alloc ?_ ?_ _) | (with_reducible refine Below.drew ?_) | (with_reducible refine below_drewN ?_ _) | (with_reducible refine Below.setCell ?_ ?_ _) | (with_reducible refine Below.trans ?_ (Below.mono (by with_reducible assumption) ?_)) | omega | (simp only [World.size_alloc, World.size_setCell, World.size_drew, size_drewN']; omega) | go_size))).mono ?_
    rintro e w1 ⟨rfl, hb1⟩
    go_wp2_with fail
    go_returns
    exact ⟨by rw [HP.out]; rfl, (by have z0 := Below.size hb1; (try simp only [World.size_alloc, World.size_setCell, World.size_drew, size_drewN'] at z0 ⊢; skip); repeat' (first | (with_reducible exact Below.refl _ _) | (with_reducible assumption) | (with_reducible refine Below.alloc ?_ ?_ _) | (with_reducible refine Below.drew ?_) | (with_reducible refine below_drewN ?_ _) | (with_reducible refine Below.setCell ?_ ?_ _) | (with_reducible refine Below.trans ?_ (Below.mono (by with_reducible assumption) ?_)) | omega | (simp only [World.size_alloc, World.size_setCell, World.size_drew, size_drewN']; omega) | go_size))⟩
set_option maxHeartbeats 4000000 in
theorem heavy_any (h : FrI w A f) (ht : f.top ≤ 9223372036854775807) :
    Calls Try.prog 57 #[fv f.vars A f.nn c f.top] w fun e w' => e = .returned (.bool (decide (codeP f = 0 ∧ 7 < popc (supF f.fr)))) ∧ Below w.heap.size w w' := by
  have K1 := Lib.hid (fun W (hW : Below w.heap.size w W) => rcheck13_any (c := c) (h.below hW) ht)
  by_cases h0 : codeP f = 0
  · have ok := (codeP_ok h0).1
    obtain ⟨v, hv⟩ := ok.nat
    have K2 := Lib.hid (fun W (hW : Below w.heap.size w W) => rsupport_ok (c := c) (h.below hW) ok hv)
    have hS : supF f.fr < 16777216 := (supF_lt ok hv).2
    have K3 := Lib.hid (fun W => refBits_any _ hS W)
    have HD : Hid (decide (codeP f = 0 ∧ 7 < popc (supF f.fr)) = decide (7 < popc (supF f.fr))) := by show _ = _; rw [decide_eq_decide]; exact ⟨fun h => h.2, fun h => ⟨h0, h⟩⟩
    rw [h0] at K1
    rw [hv] at K1 ⊢
    generalize hbd : decide (codeP f = 0 ∧ 7 < popc (supF f.fr)) = bd at *
    generalize supF f.fr = S at *
    generalize popc S = pc at *
    generalize f.nn = nn at *
    generalize f.top = tp at *
    clear ok hv h h0 hS hbd
    go_enter Try.func57, Try.ntmps57
    go_wp2_with fail
    refine (K1.out _ (by (skip); repeat' (first | (with_reducible exact Below.refl _ _) | (with_reducible assumption) | (with_reducible refine Below.alloc ?_ ?_ _) | (with_reducible refine Below.drew ?_) | (with_reducible refine below_drewN ?_ _) | (with_reducible refine Below.setCell ?_ ?_ _) | (with_reducible refine Below.trans ?_ (Below.mono (by with_reducible assumption) ?_)) | omega | (simp only [World.size_alloc, World.size_setCell, World.size_drew, size_drewN']; omega) | go_size))).mono ?_
    rintro e w1 ⟨rfl, hb1⟩
    have hb1z := hb1.size
    simp only [World.size_alloc] at hb1z
    have x0 : w1.cell? ⟨w.heap.size, 0, none⟩ = some (.int .i64 (v : Int)) := (below_at hb1 w.heap.size 0 (by simp)).trans (by simp [go_sem])
    have x1 : w1.cell? ⟨w.heap.size, 1, none⟩ = some (.slice A nn c) := (below_at hb1 w.heap.size 1 (by simp)).trans (by simp [go_sem])
    have x2 : w1.cell? ⟨w.heap.size, 2, none⟩ = some (.int .i64 tp) := (below_at hb1 w.heap.size 2 (by simp)).trans (by simp [go_sem])
    have hbA : Below w.heap.size w w1 := (by have z0 := Below.size hb1; (try simp only [World.size_alloc, World.size_setCell, World.size_drew, size_drewN'] at z0 ⊢; skip); repeat' (first | (with_reducible exact Below.refl _ _) | (with_reducible assumption) | (with_reducible refine Below.alloc ?_ ?_ _) | (with_reducible refine Below.drew ?_) | (with_reducible refine below_drewN ?_ _) | (with_reducible refine Below.setCell ?_ ?_ _) | (with_reducible refine Below.trans ?_ (Below.mono (by with_reducible assumption) ?_)) | omega | (simp only [World.size_alloc, World.size_setCell, World.size_drew, size_drewN']; omega) | go_size))
    clear hb1
    go_wp2_with fail
    refine (K2.out _ hbA).mono ?_
    rintro e w2 ⟨rfl, hb2⟩
    clear x0 x1 x2
    go_wp2_with fail
    refine (K3.out _).mono ?_
    rintro e w3 ⟨rfl, rfl⟩
    go_wp2_with fail
    go_returns
    exact ⟨by rw [HD.out]; simp; omega, (by have z0 := Below.size hbA; have z1 := Below.size hb2; (try simp only [World.size_alloc, World.size_setCell, World.size_drew, size_drewN'] at z0 z1 ⊢; skip); repeat' (first | (with_reducible exact Below.refl _ _) | (with_reducible assumption) | (with_reducible refine Below.alloc ?_ ?_ _) | (with_reducible refine Below.drew ?_) | (with_reducible refine below_drewN ?_ _) | (with_reducible refine Below.setCell ?_ ?_ _) | (with_reducible refine Below.trans ?_ (Below.mono (by with_reducible assumption) ?_)) | omega | (simp only [World.size_alloc, World.size_setCell, World.size_drew, size_drewN']; omega) | go_size))⟩
  · have HD : Hid (decide (codeP f = 0 ∧ 7 < popc (supF f.fr)) = false) := by show _ = _; simp [h0]
    generalize hbd : decide (codeP f = 0 ∧ 7 < popc (supF f.fr)) = bd at *
    have h1 : (codeP f == 0) = false := by simpa using h0
    generalize codeP f = cf at *
    generalize f.vars = v at *
    generalize f.nn = nn at *
    generalize f.top = tp at *
    clear h hbd
    go_enter Try.func57, Try.ntmps57
    go_wp2_with fail
    refine (K1.out _ (by (skip); repeat' (first | (with_reducible exact Below.refl _ _) | (with_reducible assumption) | (with_reducible refine Below.alloc ?_ ?_ _) | (with_reducible refine Below.drew ?_) | (with_reducible refine below_drewN ?_ _) | (with_reducible refine Below.setCell ?_ ?_ _) | (with_reducible refine Below.trans ?_ (Below.mono (by with_reducible assumption) ?_)) | omega | (simp only [World.size_alloc, World.size_setCell, World.size_drew, size_drewN']; omega) | go_size))).mono ?_
    rintro e w1 ⟨rfl, hb1⟩
    go_wp2_with fail
    go_returns
    exact ⟨by rw [HD.out]; rfl, (by have z0 := Below.size hb1; (try simp only [World.size_alloc, World.size_setCell, World.size_drew, size_drewN'] at z0 ⊢; skip); repeat' (first | (with_reducible exact Below.refl _ _) | (with_reducible assumption) | (with_reducible refine Below.alloc ?_ ?_ _) | (with_reducible refine Below.drew ?_) | (with_reducible refine below_drewN ?_ _) | (with_reducible refine Below.setCell ?_ ?_ _) | (with_reducible refine Below.trans ?_ (Below.mono (by with_reducible assumption) ?_)) | omega | (simp only [World.size_alloc, World.size_setCell, World.size_drew, size_drewN']; omega) | go_size))⟩
set_option maxHeartbeats 4000000 in
theorem valid13_any (h : FrI w A f) (ht : f.top ≤ 9223372036854775807) :
    Calls Try.prog 52 #[fv f.vars A f.nn c f.top] w fun e w' => e = .returned (.bool (decide (codeP f = 0 ∧ popc (supF f.fr) ≤ 7))) ∧ Below w.heap.size w w' := by
  have K1 := Lib.hid (fun W (hW : Below w.heap.size w W) => rcheck13_any (c := c) (h.below hW) ht)
  have K2 := Lib.hid (fun W (hW : Below w.heap.size w W) => heavy_any (c := c) (h.below hW) ht)
  have HD : Hid (decide (codeP f = 0 ∧ popc (supF f.fr) ≤ 7) = (decide (codeP f = 0) && !decide (codeP f = 0 ∧ 7 < popc (supF f.fr)))) := by
    show _ = _
    by_cases h0 : codeP f = 0
    · by_cases h1 : 7 < popc (supF f.fr)
      · simp [h0, h1]
      · simp [h0, h1]; omega
    · simp [h0]
  generalize decide (codeP f = 0 ∧ popc (supF f.fr) ≤ 7) = bd at *
  generalize decide (codeP f = 0 ∧ 7 < popc (supF f.fr)) = bh at *
  generalize codeP f = cf at *
  generalize f.vars = v at *
  generalize f.nn = nn at *
  generalize f.top = tp at *
  clear h
  by_cases h0 : cf = 0
  · have h1 : (cf == 0) = true := by simpa using h0
    have HD2 : Hid (bd = !bh) := by show _ = _; rw [HD.out]; simp [h0]
    clear h0
    go_enter Try.func52, Try.ntmps52
    go_wp2_with fail
    refine (K1.out _ (by (skip); repeat' (first | (with_reducible exact Below.refl _ _) | (with_reducible assumption) | (with_reducible refine Below.alloc ?_ ?_ _) | (with_reducible refine Below.drew ?_) | (with_reducible refine below_drewN ?_ _) | (with_reducible refine Below.setCell ?_ ?_ _) | (with_reducible refine Below.trans ?_ (Below.mono (by with_reducible assumption) ?_)) | omega | (simp only [World.size_alloc, World.size_setCell, World.size_drew, size_drewN']; omega) | go_size))).mono ?_
    rintro e w1 ⟨rfl, hb1⟩
    have hb1z := hb1.size
    simp only [World.size_alloc] at hb1z
    have x0 : w1.cell? ⟨w.heap.size, 0, none⟩ = some (.int .i64 v) := (below_at hb1 w.heap.size 0 (by simp)).trans (by simp [go_sem])
    have x1 : w1.cell? ⟨w.heap.size, 1, none⟩ = some (.slice A nn c) := (below_at hb1 w.heap.size 1 (by simp)).trans (by simp [go_sem])
    have x2 : w1.cell? ⟨w.heap.size, 2, none⟩ = some (.int .i64 tp) := (below_at hb1 w.heap.size 2 (by simp)).trans (by simp [go_sem])
    have hbA : Below w.heap.size w w1 := (by have z0 := Below.size hb1; (try simp only [World.size_alloc, World.size_setCell, World.size_drew, size_drewN'] at z0 ⊢; skip); repeat' (first | (with_reducible exact Below.refl _ _) | (with_reducible assumption) | (with_reducible refine Below.alloc ?_ ?_ _) | (with_reducible refine Below.drew ?_) | (with_reducible refine below_drewN ?_ _) | (with_reducible refine Below.setCell ?_ ?_ _) | (with_reducible refine Below.trans ?_ (Below.mono (by with_reducible assumption) ?_)) | omega | (simp only [World.size_alloc, World.size_setCell, World.size_drew, size_drewN']; omega) | go_size))
    clear hb1
    go_wp2_with fail
    refine (K2.out _ hbA).mono ?_
    rintro e w2 ⟨rfl, hb2⟩
    go_wp2_with fail
    go_returns
    exact ⟨by rw [HD2.out]; rfl, (by have z0 := Below.size hbA; have z1 := Below.size hb2; (try simp only [World.size_alloc, World.size_setCell, World.size_drew, size_drewN'] at z0 z1 ⊢; skip); repeat' (first | (with_reducible exact Below.refl _ _) | (with_reducible assumption) | (with_reducible refine Below.alloc ?_ ?_ _) | (with_reducible refine Below.drew ?_) | (with_reducible refine below_drewN ?_ _) | (with_reducible refine Below.setCell ?_ ?_ _) | (with_reducible refine Below.trans ?_ (Below.mono (by with_reducible assumption) ?_)) | omega | (simp only [World.size_alloc, World.size_setCell, World.size_drew, size_drewN']; omega) | go_size))⟩
  · have h1 : (cf == 0) = false := by simpa using h0
    have HD2 : Hid (bd = false) := by show _ = _; rw [HD.out]; simp [h0]
    clear h0
    go_enter Try.func52, Try.ntmps52
    go_wp2_with fail
    refine (K1.out _ (by (skip); repeat' (first | (with_reducible exact Below.refl _ _) | (with_reducible assumption) | (with_reducible refine Below.alloc ?_ ?_ _) | (with_reducible refine Below.drew ?_) | (with_reducible refine below_drewN ?_ _) | (with_reducible refine Below.setCell ?_ ?_ _) | (with_reducible refine Below.trans ?_ (Below.mono (by with_reducible assumption) ?_)) | omega | (simp only [World.size_alloc, World.size_setCell, World.size_drew, size_drewN']; omega) | go_size))).mono ?_
    rintro e w1 ⟨rfl, hb1⟩
    go_wp2_with fail
    go_returns
    exact ⟨by rw [HD2.out]; rfl, (by have z0 := Below.size hb1; (try simp only [World.size_alloc, World.size_setCell, World.size_drew, size_drewN'] at z0 ⊢; skip); repeat' (first | (with_reducible exact Below.refl _ _) | (with_reducible assumption) | (with_reducible refine Below.alloc ?_ ?_ _) | (with_reducible refine Below.drew ?_) | (with_reducible refine below_drewN ?_ _) | (with_reducible refine Below.setCell ?_ ?_ _) | (with_reducible refine Below.trans ?_ (Below.mono (by with_reducible assumption) ?_)) | omega | (simp only [World.size_alloc, World.size_setCell, World.size_drew, size_drewN']; omega) | go_size))⟩
end
end Go.Proofs.Ytedopalmfakeaaa
