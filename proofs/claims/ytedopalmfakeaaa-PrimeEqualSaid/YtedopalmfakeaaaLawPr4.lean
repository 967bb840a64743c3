/- Contracts of functions and lemmas, used by the proofs of the given statements. No condition beyond those that each lemma names. -/
import Derived.Test.YtedopalmfakeaaaLawPr3
import Derived.Test.YtedopalmfakeaaaPrX7
import Derived.Test.YtedopalmfakeaaaPrX8
namespace Go.Proofs.Ytedopalmfakeaaa
open Go.RowKit Go.Sort
set_option linter.unusedSimpArgs false
set_option linter.unusedVariables false
set_option maxRecDepth 20000
/-! ## law13: PrimeImplicants -/
attribute [local irreducible] pop popc
section
variable {w : World} {A : Option Addr} {cp : Nat} {f : FrR} {c : Cb}
set_option maxHeartbeats 8000000 in
theorem primeImplicants_law (h : FrI w A f) (ht : f.top ≤ 9223372036854775807) :
    Calls Try.prog 15 #[fv f.vars A f.nn cp f.top, cbv c] w fun e w' => e = .returned (.bool true) ∧ Below w.heap.size w w' := by
  have K0 := Lib.hid (fun W (hW : Below w.heap.size w W) => heavy_any (c := cp) (h.below hW) ht)
  have K1 := Lib.hid (fun W (hW : Below w.heap.size w W) => rcheck13_any (c := cp) (h.below hW) ht)
  by_cases hh : codeP f = 0 ∧ 7 < popc (supF f.fr)
  · rw [decide_eq_true hh] at K0
    obtain ⟨c1, c2⟩ := c
    clear h hh K1
    generalize f.vars = v at *
    generalize f.nn = nn at *
    generalize f.top = tp at *
    go_enter Try.func15, Try.ntmps15
    go_wp2_with fail
    refine (awake13_any _).mono ?_
    rintro e w1 ⟨rfl, hb1⟩
    have hb1z := hb1.size
    simp only [World.size_alloc] at hb1z
    have x1_0 : w1.cell? ⟨w.heap.size, 0, none⟩ = some (.int .i64 v) := (below_at hb1 (w.heap.size) 0 (by first | (simp; done) | (simp; omega))).trans (by simp [go_sem])
    have x1_1 : w1.cell? ⟨w.heap.size, 1, none⟩ = some (.slice A nn cp) := (below_at hb1 (w.heap.size) 1 (by first | (simp; done) | (simp; omega))).trans (by simp [go_sem])
    have x1_2 : w1.cell? ⟨w.heap.size, 2, none⟩ = some (.int .i64 tp) := (below_at hb1 (w.heap.size) 2 (by first | (simp; done) | (simp; omega))).trans (by simp [go_sem])
    have x1_3 : w1.cell? ⟨w.heap.size + 1, 0, none⟩ = some (.int .i64 c1) := (below_at hb1 (w.heap.size + 1) 0 (by first | (simp; done) | (simp; omega))).trans (by simp [go_sem])
    have x1_4 : w1.cell? ⟨w.heap.size + 1, 1, none⟩ = some (.int .i64 c2) := (below_at hb1 (w.heap.size + 1) 1 (by first | (simp; done) | (simp; omega))).trans (by simp [go_sem])
    have hbA1 : Below w.heap.size w w1 := (by have z0 := Below.size hb1; (try simp only [World.size_alloc, World.size_setCell, World.size_drew, size_drewN'] at z0 ⊢; skip); repeat' (first | (with_reducible exact Below.refl _ _) | (with_reducible assumption) | (with_reducible refine Below.alloc ?_ ?_ _) | (with_reducible refine Below.drew ?_) | (with_reducible refine below_drewN ?_ _) | (with_reducible refine Below.setCell ?_ ?_ _) | (with_reducible refine Below.trans ?_ (Below.mono (by with_reducible assumption) ?_)) | omega | (simp only [World.size_alloc, World.size_setCell, World.size_drew, size_drewN']; omega) | go_size))
    clear hb1
    go_wp2_with fail
    refine (K0.out _ hbA1).mono ?_
    rintro e w2 ⟨rfl, hb2⟩
    have hb2z := hb2.size
    have x2_0 := (below_at hb2 (w.heap.size) 0 (by omega)).trans x1_0
    have x2_1 := (below_at hb2 (w.heap.size) 1 (by omega)).trans x1_1
    have x2_2 := (below_at hb2 (w.heap.size) 2 (by omega)).trans x1_2
    have x2_3 := (below_at hb2 (w.heap.size + 1) 0 (by omega)).trans x1_3
    have x2_4 := (below_at hb2 (w.heap.size + 1) 1 (by omega)).trans x1_4
    have hbA2 : Below w.heap.size w w2 := (by have z0 := Below.size hbA1; have z1 := Below.size hb2; (try simp only [World.size_alloc, World.size_setCell, World.size_drew, size_drewN'] at z0 z1 ⊢; skip); repeat' (first | (with_reducible exact Below.refl _ _) | (with_reducible assumption) | (with_reducible refine Below.alloc ?_ ?_ _) | (with_reducible refine Below.drew ?_) | (with_reducible refine below_drewN ?_ _) | (with_reducible refine Below.setCell ?_ ?_ _) | (with_reducible refine Below.trans ?_ (Below.mono (by with_reducible assumption) ?_)) | omega | (simp only [World.size_alloc, World.size_setCell, World.size_drew, size_drewN']; omega) | go_size))
    clear x1_0 x1_1 x1_2 x1_3 x1_4 hb2 hbA1
    go_wp2_with fail
    refine (awake13_any _).mono ?_
    rintro e w3 ⟨rfl, hb3⟩
    have hb3z := hb3.size
    have hbA3 : Below w.heap.size w w3 := (by have z0 := Below.size hbA2; have z1 := Below.size hb3; (try simp only [World.size_alloc, World.size_setCell, World.size_drew, size_drewN'] at z0 z1 ⊢; skip); repeat' (first | (with_reducible exact Below.refl _ _) | (with_reducible assumption) | (with_reducible refine Below.alloc ?_ ?_ _) | (with_reducible refine Below.drew ?_) | (with_reducible refine below_drewN ?_ _) | (with_reducible refine Below.setCell ?_ ?_ _) | (with_reducible refine Below.trans ?_ (Below.mono (by with_reducible assumption) ?_)) | omega | (simp only [World.size_alloc, World.size_setCell, World.size_drew, size_drewN']; omega) | go_size))
    clear hb3 hbA2
    go_wp2_with fail
    go_returns
    exact ⟨rfl, hbA3⟩
  · rw [decide_eq_false hh] at K0
    by_cases hcI : codeI f c = 0
    · have hc : codeP f = 0 := by
        unfold codeI at hcI
        by_cases h0 : codeP f = 0
        · exact h0
        · rw [if_pos h0] at hcI; exact hcI
      have h7 : popc (supF f.fr) ≤ 7 := by omega
      have ok := (codeP_ok hc).1
      obtain ⟨v, hv⟩ := ok.nat
      have v1 : v ≤ 24 := by have := ok.v1; omega
      have hcQ : codeQ v c = 0 := by
        unfold codeI at hcI
        rw [if_neg (by simpa using hc), hv] at hcI
        exact hcI
      rw [hc] at K1
      have K6 := Lib.hid (fun (W : World) => rcheckCube_any (w := W) (A := A) (cp := cp) (c := c) (nn := f.nn) (tp := f.top) v1)
      rw [hcQ] at K6
      obtain ⟨a, ha, rfl, hev⟩ := codeQ_zero hcQ
      obtain ⟨I, hI⟩ := impI_ex (supF f.fr) f.fr.val
      have K2 := Lib.hid (fun W (hW : Below w.heap.size w W) => ImplicantX_ok (cp := cp) (h.below hW) ok hv (by omega) ha hev hI)
      have K3 := Lib.hid (fun W (hW : Below w.heap.size w W) => PrimeX_ok (cp := cp) (h.below hW) ok hv (by omega) ha hev hI)
      have K4 := Lib.hid (fun W (hW : Below w.heap.size w W) => rimp13_ok (cp := cp) (h.below hW) ok hv (by omega) ha hI)
      have K5 := Lib.hid (fun W (hW : Below w.heap.size w W) => rprime13_ok (cp := cp) (h.below hW) ok hv (by omega) ha hev hI)
      rw [hv] at K0 K1 ⊢
      generalize primeI I a = bp at *
      generalize I a = bi at *
      generalize f.nn = nn at *
      generalize f.top = tp at *
      clear ok hv h hh hc h7 ht hcI hcQ hI ha hev
      obtain ⟨c1, c2⟩ := a
      have eq1 : (bi == bi) = true := by simp
      have eq2 : (bp == bp) = true := by simp
      go_enter Try.func15, Try.ntmps15
      go_wp2_with fail
      refine (awake13_any _).mono ?_
      rintro e w1 ⟨rfl, hb1⟩
      have hb1z := hb1.size
      simp only [World.size_alloc] at hb1z
      have x1_0 : w1.cell? ⟨w.heap.size, 0, none⟩ = some (.int .i64 (v : Int)) := (below_at hb1 (w.heap.size) 0 (by first | (simp; done) | (simp; omega))).trans (by simp [go_sem])
      have x1_1 : w1.cell? ⟨w.heap.size, 1, none⟩ = some (.slice A nn cp) := (below_at hb1 (w.heap.size) 1 (by first | (simp; done) | (simp; omega))).trans (by simp [go_sem])
      have x1_2 : w1.cell? ⟨w.heap.size, 2, none⟩ = some (.int .i64 tp) := (below_at hb1 (w.heap.size) 2 (by first | (simp; done) | (simp; omega))).trans (by simp [go_sem])
      have x1_3 : w1.cell? ⟨w.heap.size + 1, 0, none⟩ = some (.int .i64 (c1 : Int)) := (below_at hb1 (w.heap.size + 1) 0 (by first | (simp; done) | (simp; omega))).trans (by simp [go_sem])
      have x1_4 : w1.cell? ⟨w.heap.size + 1, 1, none⟩ = some (.int .i64 (c2 : Int)) := (below_at hb1 (w.heap.size + 1) 1 (by first | (simp; done) | (simp; omega))).trans (by simp [go_sem])
      have hbA1 : Below w.heap.size w w1 := (by have z0 := Below.size hb1; (try simp only [World.size_alloc, World.size_setCell, World.size_drew, size_drewN'] at z0 ⊢; skip); repeat' (first | (with_reducible exact Below.refl _ _) | (with_reducible assumption) | (with_reducible refine Below.alloc ?_ ?_ _) | (with_reducible refine Below.drew ?_) | (with_reducible refine below_drewN ?_ _) | (with_reducible refine Below.setCell ?_ ?_ _) | (with_reducible refine Below.trans ?_ (Below.mono (by with_reducible assumption) ?_)) | omega | (simp only [World.size_alloc, World.size_setCell, World.size_drew, size_drewN']; omega) | go_size))
      clear hb1
      go_wp2_with fail
      refine (K0.out _ hbA1).mono ?_
      rintro e w2 ⟨rfl, hb2⟩
      have hb2z := hb2.size
      have x2_0 := (below_at hb2 (w.heap.size) 0 (by omega)).trans x1_0
      have x2_1 := (below_at hb2 (w.heap.size) 1 (by omega)).trans x1_1
      have x2_2 := (below_at hb2 (w.heap.size) 2 (by omega)).trans x1_2
      have x2_3 := (below_at hb2 (w.heap.size + 1) 0 (by omega)).trans x1_3
      have x2_4 := (below_at hb2 (w.heap.size + 1) 1 (by omega)).trans x1_4
      have hbA2 : Below w.heap.size w w2 := (by have z0 := Below.size hbA1; have z1 := Below.size hb2; (try simp only [World.size_alloc, World.size_setCell, World.size_drew, size_drewN'] at z0 z1 ⊢; skip); repeat' (first | (with_reducible exact Below.refl _ _) | (with_reducible assumption) | (with_reducible refine Below.alloc ?_ ?_ _) | (with_reducible refine Below.drew ?_) | (with_reducible refine below_drewN ?_ _) | (with_reducible refine Below.setCell ?_ ?_ _) | (with_reducible refine Below.trans ?_ (Below.mono (by with_reducible assumption) ?_)) | omega | (simp only [World.size_alloc, World.size_setCell, World.size_drew, size_drewN']; omega) | go_size))
      clear x1_0 x1_1 x1_2 x1_3 x1_4 hb2 hbA1
      go_wp2_with fail
      refine (K2.out _ hbA2).mono ?_
      rintro e w3 ⟨rfl, hb3⟩
      have hb3z := hb3.size
      have x3_0 := (below_at hb3 (w.heap.size) 0 (by omega)).trans x2_0
      have x3_1 := (below_at hb3 (w.heap.size) 1 (by omega)).trans x2_1
      have x3_2 := (below_at hb3 (w.heap.size) 2 (by omega)).trans x2_2
      have x3_3 := (below_at hb3 (w.heap.size + 1) 0 (by omega)).trans x2_3
      have x3_4 := (below_at hb3 (w.heap.size + 1) 1 (by omega)).trans x2_4
      have hbA3 : Below w.heap.size w w3 := (by have z0 := Below.size hbA2; have z1 := Below.size hb3; (try simp only [World.size_alloc, World.size_setCell, World.size_drew, size_drewN'] at z0 z1 ⊢; skip); repeat' (first | (with_reducible exact Below.refl _ _) | (with_reducible assumption) | (with_reducible refine Below.alloc ?_ ?_ _) | (with_reducible refine Below.drew ?_) | (with_reducible refine below_drewN ?_ _) | (with_reducible refine Below.setCell ?_ ?_ _) | (with_reducible refine Below.trans ?_ (Below.mono (by with_reducible assumption) ?_)) | omega | (simp only [World.size_alloc, World.size_setCell, World.size_drew, size_drewN']; omega) | go_size))
      clear x2_0 x2_1 x2_2 x2_3 x2_4 hb3 hbA2
      go_wp2_with fail
      refine (K3.out _ hbA3).mono ?_
      rintro e w4 ⟨rfl, hb4⟩
      have hb4z := hb4.size
      have x4_0 := (below_at hb4 (w.heap.size) 0 (by omega)).trans x3_0
      have x4_1 := (below_at hb4 (w.heap.size) 1 (by omega)).trans x3_1
      have x4_2 := (below_at hb4 (w.heap.size) 2 (by omega)).trans x3_2
      have x4_3 := (below_at hb4 (w.heap.size + 1) 0 (by omega)).trans x3_3
      have x4_4 := (below_at hb4 (w.heap.size + 1) 1 (by omega)).trans x3_4
      have hbA4 : Below w.heap.size w w4 := (by have z0 := Below.size hbA3; have z1 := Below.size hb4; (try simp only [World.size_alloc, World.size_setCell, World.size_drew, size_drewN'] at z0 z1 ⊢; skip); repeat' (first | (with_reducible exact Below.refl _ _) | (with_reducible assumption) | (with_reducible refine Below.alloc ?_ ?_ _) | (with_reducible refine Below.drew ?_) | (with_reducible refine below_drewN ?_ _) | (with_reducible refine Below.setCell ?_ ?_ _) | (with_reducible refine Below.trans ?_ (Below.mono (by with_reducible assumption) ?_)) | omega | (simp only [World.size_alloc, World.size_setCell, World.size_drew, size_drewN']; omega) | go_size))
      clear x3_0 x3_1 x3_2 x3_3 x3_4 hb4 hbA3
      go_wp2_with fail
      refine (K1.out _ hbA4).mono ?_
      rintro e w5 ⟨rfl, hb5⟩
      have hb5z := hb5.size
      have x5_0 := (below_at hb5 (w.heap.size) 0 (by omega)).trans x4_0
      have x5_1 := (below_at hb5 (w.heap.size) 1 (by omega)).trans x4_1
      have x5_2 := (below_at hb5 (w.heap.size) 2 (by omega)).trans x4_2
      have x5_3 := (below_at hb5 (w.heap.size + 1) 0 (by omega)).trans x4_3
      have x5_4 := (below_at hb5 (w.heap.size + 1) 1 (by omega)).trans x4_4
      have hbA5 : Below w.heap.size w w5 := (by have z0 := Below.size hbA4; have z1 := Below.size hb5; (try simp only [World.size_alloc, World.size_setCell, World.size_drew, size_drewN'] at z0 z1 ⊢; skip); repeat' (first | (with_reducible exact Below.refl _ _) | (with_reducible assumption) | (with_reducible refine Below.alloc ?_ ?_ _) | (with_reducible refine Below.drew ?_) | (with_reducible refine below_drewN ?_ _) | (with_reducible refine Below.setCell ?_ ?_ _) | (with_reducible refine Below.trans ?_ (Below.mono (by with_reducible assumption) ?_)) | omega | (simp only [World.size_alloc, World.size_setCell, World.size_drew, size_drewN']; omega) | go_size))
      clear x4_0 x4_1 x4_2 x4_3 x4_4 hb5 hbA4
      go_wp2_with fail
      refine (K6.out _).mono ?_
      rintro e w6 ⟨rfl, hb6⟩
      have hb6z := hb6.size
      have x6_0 := (below_at hb6 (w.heap.size) 0 (by omega)).trans x5_0
      have x6_1 := (below_at hb6 (w.heap.size) 1 (by omega)).trans x5_1
      have x6_2 := (below_at hb6 (w.heap.size) 2 (by omega)).trans x5_2
      have x6_3 := (below_at hb6 (w.heap.size + 1) 0 (by omega)).trans x5_3
      have x6_4 := (below_at hb6 (w.heap.size + 1) 1 (by omega)).trans x5_4
      have hbA6 : Below w.heap.size w w6 := (by have z0 := Below.size hbA5; have z1 := Below.size hb6; (try simp only [World.size_alloc, World.size_setCell, World.size_drew, size_drewN'] at z0 z1 ⊢; skip); repeat' (first | (with_reducible exact Below.refl _ _) | (with_reducible assumption) | (with_reducible refine Below.alloc ?_ ?_ _) | (with_reducible refine Below.drew ?_) | (with_reducible refine below_drewN ?_ _) | (with_reducible refine Below.setCell ?_ ?_ _) | (with_reducible refine Below.trans ?_ (Below.mono (by with_reducible assumption) ?_)) | omega | (simp only [World.size_alloc, World.size_setCell, World.size_drew, size_drewN']; omega) | go_size))
      clear x5_0 x5_1 x5_2 x5_3 x5_4 hb6 hbA5
      go_wp2_with fail
      refine (K4.out _ hbA6).mono ?_
      rintro e w7 ⟨rfl, hb7⟩
      have hb7z := hb7.size
      have x7_0 := (below_at hb7 (w.heap.size) 0 (by omega)).trans x6_0
      have x7_1 := (below_at hb7 (w.heap.size) 1 (by omega)).trans x6_1
      have x7_2 := (below_at hb7 (w.heap.size) 2 (by omega)).trans x6_2
      have x7_3 := (below_at hb7 (w.heap.size + 1) 0 (by omega)).trans x6_3
      have x7_4 := (below_at hb7 (w.heap.size + 1) 1 (by omega)).trans x6_4
      have hbA7 : Below w.heap.size w w7 := (by have z0 := Below.size hbA6; have z1 := Below.size hb7; (try simp only [World.size_alloc, World.size_setCell, World.size_drew, size_drewN'] at z0 z1 ⊢; skip); repeat' (first | (with_reducible exact Below.refl _ _) | (with_reducible assumption) | (with_reducible refine Below.alloc ?_ ?_ _) | (with_reducible refine Below.drew ?_) | (with_reducible refine below_drewN ?_ _) | (with_reducible refine Below.setCell ?_ ?_ _) | (with_reducible refine Below.trans ?_ (Below.mono (by with_reducible assumption) ?_)) | omega | (simp only [World.size_alloc, World.size_setCell, World.size_drew, size_drewN']; omega) | go_size))
      clear x6_0 x6_1 x6_2 x6_3 x6_4 hb7 hbA6
      go_wp2_with fail
      refine (K5.out _ hbA7).mono ?_
      rintro e w8 ⟨rfl, hb8⟩
      have hb8z := hb8.size
      have hbA8 : Below w.heap.size w w8 := (by have z0 := Below.size hbA7; have z1 := Below.size hb8; (try simp only [World.size_alloc, World.size_setCell, World.size_drew, size_drewN'] at z0 z1 ⊢; skip); repeat' (first | (with_reducible exact Below.refl _ _) | (with_reducible assumption) | (with_reducible refine Below.alloc ?_ ?_ _) | (with_reducible refine Below.drew ?_) | (with_reducible refine below_drewN ?_ _) | (with_reducible refine Below.setCell ?_ ?_ _) | (with_reducible refine Below.trans ?_ (Below.mono (by with_reducible assumption) ?_)) | omega | (simp only [World.size_alloc, World.size_setCell, World.size_drew, size_drewN']; omega) | go_size))
      clear hb8 hbA7
      go_wp2_with fail
      go_returns
      exact ⟨by simp, hbA8⟩
    · have K2 := Lib.hid (fun W (hW : Below w.heap.size w W) => ImplicantX_bad (cp := cp) (h.below hW) ht hcI)
      have K3 := Lib.hid (fun W (hW : Below w.heap.size w W) => PrimeX_bad (cp := cp) (h.below hW) ht hcI)
      have hq : (codeI f c != 0) = true := by simpa using hcI
      by_cases hc : codeP f = 0
      · have ok := (codeP_ok hc).1
        obtain ⟨v, hv⟩ := ok.nat
        have v1 : v ≤ 24 := by have := ok.v1; omega
        have K6 := Lib.hid (fun (W : World) => rcheckCube_any (w := W) (A := A) (cp := cp) (c := c) (nn := f.nn) (tp := f.top) v1)
        have e0 : codeI f c = codeQ v c := by unfold codeI; rw [if_neg (by simpa using hc), hv]; rfl
        rw [hc] at K1
        rw [e0] at K2 K3 hq hcI
        rw [hv] at K0 K1 K2 K3 ⊢
        generalize codeQ v c = q at *
        generalize f.nn = nn at *
        generalize f.top = tp at *
        clear h hh ht hc ok hv e0
        obtain ⟨c1, c2⟩ := c
        go_enter Try.func15, Try.ntmps15
        go_wp2_with fail
        refine (awake13_any _).mono ?_
        rintro e w1 ⟨rfl, hb1⟩
        have hb1z := hb1.size
        simp only [World.size_alloc] at hb1z
        have x1_0 : w1.cell? ⟨w.heap.size, 0, none⟩ = some (.int .i64 (v : Int)) := (below_at hb1 (w.heap.size) 0 (by first | (simp; done) | (simp; omega))).trans (by simp [go_sem])
        have x1_1 : w1.cell? ⟨w.heap.size, 1, none⟩ = some (.slice A nn cp) := (below_at hb1 (w.heap.size) 1 (by first | (simp; done) | (simp; omega))).trans (by simp [go_sem])
        have x1_2 : w1.cell? ⟨w.heap.size, 2, none⟩ = some (.int .i64 tp) := (below_at hb1 (w.heap.size) 2 (by first | (simp; done) | (simp; omega))).trans (by simp [go_sem])
        have x1_3 : w1.cell? ⟨w.heap.size + 1, 0, none⟩ = some (.int .i64 c1) := (below_at hb1 (w.heap.size + 1) 0 (by first | (simp; done) | (simp; omega))).trans (by simp [go_sem])
        have x1_4 : w1.cell? ⟨w.heap.size + 1, 1, none⟩ = some (.int .i64 c2) := (below_at hb1 (w.heap.size + 1) 1 (by first | (simp; done) | (simp; omega))).trans (by simp [go_sem])
        have hbA1 : Below w.heap.size w w1 := (by have z0 := Below.size hb1; (try simp only [World.size_alloc, World.size_setCell, World.size_drew, size_drewN'] at z0 ⊢; skip); repeat' (first | (with_reducible exact Below.refl _ _) | (with_reducible assumption) | (with_reducible refine Below.alloc ?_ ?_ _) | (with_reducible refine Below.drew ?_) | (with_reducible refine below_drewN ?_ _) | (with_reducible refine Below.setCell ?_ ?_ _) | (with_reducible refine Below.trans ?_ (Below.mono (by with_reducible assumption) ?_)) | omega | (simp only [World.size_alloc, World.size_setCell, World.size_drew, size_drewN']; omega) | go_size))
        clear hb1
        go_wp2_with fail
        refine (K0.out _ hbA1).mono ?_
        rintro e w2 ⟨rfl, hb2⟩
        have hb2z := hb2.size
        have x2_0 := (below_at hb2 (w.heap.size) 0 (by omega)).trans x1_0
        have x2_1 := (below_at hb2 (w.heap.size) 1 (by omega)).trans x1_1
        have x2_2 := (below_at hb2 (w.heap.size) 2 (by omega)).trans x1_2
        have x2_3 := (below_at hb2 (w.heap.size + 1) 0 (by omega)).trans x1_3
        have x2_4 := (below_at hb2 (w.heap.size + 1) 1 (by omega)).trans x1_4
        have hbA2 : Below w.heap.size w w2 := (by have z0 := Below.size hbA1; have z1 := Below.size hb2; (try simp only [World.size_alloc, World.size_setCell, World.size_drew, size_drewN'] at z0 z1 ⊢; skip); repeat' (first | (with_reducible exact Below.refl _ _) | (with_reducible assumption) | (with_reducible refine Below.alloc ?_ ?_ _) | (with_reducible refine Below.drew ?_) | (with_reducible refine below_drewN ?_ _) | (with_reducible refine Below.setCell ?_ ?_ _) | (with_reducible refine Below.trans ?_ (Below.mono (by with_reducible assumption) ?_)) | omega | (simp only [World.size_alloc, World.size_setCell, World.size_drew, size_drewN']; omega) | go_size))
        clear x1_0 x1_1 x1_2 x1_3 x1_4 hb2 hbA1
        go_wp2_with fail
        refine (K2.out _ hbA2).mono ?_
        rintro e w3 ⟨rfl, hb3⟩
        have hb3z := hb3.size
        have x3_0 := (below_at hb3 (w.heap.size) 0 (by omega)).trans x2_0
        have x3_1 := (below_at hb3 (w.heap.size) 1 (by omega)).trans x2_1
        have x3_2 := (below_at hb3 (w.heap.size) 2 (by omega)).trans x2_2
        have x3_3 := (below_at hb3 (w.heap.size + 1) 0 (by omega)).trans x2_3
        have x3_4 := (below_at hb3 (w.heap.size + 1) 1 (by omega)).trans x2_4
        have hbA3 : Below w.heap.size w w3 := (by have z0 := Below.size hbA2; have z1 := Below.size hb3; (try simp only [World.size_alloc, World.size_setCell, World.size_drew, size_drewN'] at z0 z1 ⊢; skip); repeat' (first | (with_reducible exact Below.refl _ _) | (with_reducible assumption) | (with_reducible refine Below.alloc ?_ ?_ _) | (with_reducible refine Below.drew ?_) | (with_reducible refine below_drewN ?_ _) | (with_reducible refine Below.setCell ?_ ?_ _) | (with_reducible refine Below.trans ?_ (Below.mono (by with_reducible assumption) ?_)) | omega | (simp only [World.size_alloc, World.size_setCell, World.size_drew, size_drewN']; omega) | go_size))
        clear x2_0 x2_1 x2_2 x2_3 x2_4 hb3 hbA2
        go_wp2_with fail
        refine (K3.out _ hbA3).mono ?_
        rintro e w4 ⟨rfl, hb4⟩
        have hb4z := hb4.size
        have x4_0 := (below_at hb4 (w.heap.size) 0 (by omega)).trans x3_0
        have x4_1 := (below_at hb4 (w.heap.size) 1 (by omega)).trans x3_1
        have x4_2 := (below_at hb4 (w.heap.size) 2 (by omega)).trans x3_2
        have x4_3 := (below_at hb4 (w.heap.size + 1) 0 (by omega)).trans x3_3
        have x4_4 := (below_at hb4 (w.heap.size + 1) 1 (by omega)).trans x3_4
        have hbA4 : Below w.heap.size w w4 := (by have z0 := Below.size hbA3; have z1 := Below.size hb4; (try simp only [World.size_alloc, World.size_setCell, World.size_drew, size_drewN'] at z0 z1 ⊢; skip); repeat' (first | (with_reducible exact Below.refl _ _) | (with_reducible assumption) | (with_reducible refine Below.alloc ?_ ?_ _) | (with_reducible refine Below.drew ?_) | (with_reducible refine below_drewN ?_ _) | (with_reducible refine Below.setCell ?_ ?_ _) | (with_reducible refine Below.trans ?_ (Below.mono (by with_reducible assumption) ?_)) | omega | (simp only [World.size_alloc, World.size_setCell, World.size_drew, size_drewN']; omega) | go_size))
        clear x3_0 x3_1 x3_2 x3_3 x3_4 hb4 hbA3
        go_wp2_with fail
        refine (K1.out _ hbA4).mono ?_
        rintro e w5 ⟨rfl, hb5⟩
        have hb5z := hb5.size
        have x5_0 := (below_at hb5 (w.heap.size) 0 (by omega)).trans x4_0
        have x5_1 := (below_at hb5 (w.heap.size) 1 (by omega)).trans x4_1
        have x5_2 := (below_at hb5 (w.heap.size) 2 (by omega)).trans x4_2
        have x5_3 := (below_at hb5 (w.heap.size + 1) 0 (by omega)).trans x4_3
        have x5_4 := (below_at hb5 (w.heap.size + 1) 1 (by omega)).trans x4_4
        have hbA5 : Below w.heap.size w w5 := (by have z0 := Below.size hbA4; have z1 := Below.size hb5; (try simp only [World.size_alloc, World.size_setCell, World.size_drew, size_drewN'] at z0 z1 ⊢; skip); repeat' (first | (with_reducible exact Below.refl _ _) | (with_reducible assumption) | (with_reducible refine Below.alloc ?_ ?_ _) | (with_reducible refine Below.drew ?_) | (with_reducible refine below_drewN ?_ _) | (with_reducible refine Below.setCell ?_ ?_ _) | (with_reducible refine Below.trans ?_ (Below.mono (by with_reducible assumption) ?_)) | omega | (simp only [World.size_alloc, World.size_setCell, World.size_drew, size_drewN']; omega) | go_size))
        clear x4_0 x4_1 x4_2 x4_3 x4_4 hb5 hbA4
        go_wp2_with fail
        refine (K6.out _).mono ?_
        rintro e w6 ⟨rfl, hb6⟩
        have hb6z := hb6.size
        have hbA6 : Below w.heap.size w w6 := (by have z0 := Below.size hbA5; have z1 := Below.size hb6; (try simp only [World.size_alloc, World.size_setCell, World.size_drew, size_drewN'] at z0 z1 ⊢; skip); repeat' (first | (with_reducible exact Below.refl _ _) | (with_reducible assumption) | (with_reducible refine Below.alloc ?_ ?_ _) | (with_reducible refine Below.drew ?_) | (with_reducible refine below_drewN ?_ _) | (with_reducible refine Below.setCell ?_ ?_ _) | (with_reducible refine Below.trans ?_ (Below.mono (by with_reducible assumption) ?_)) | omega | (simp only [World.size_alloc, World.size_setCell, World.size_drew, size_drewN']; omega) | go_size))
        clear hb6 hbA5
        go_wp2_with (first | ((go_at_call 21; (with_reducible refine (num_n q _).mono ?_); rintro e _ ⟨rfl, rfl⟩)) | fail)
        go_returns
        exact ⟨by simp, hbA6⟩
      · have e0 : codeI f c = codeP f := by unfold codeI; rw [if_pos hc]
        rw [e0] at K2 K3 hq hcI
        have hq2 : (codeP f == 0) = false := by simpa using hc
        generalize codeP f = q at *
        generalize f.vars = v at *
        generalize f.nn = nn at *
        generalize f.top = tp at *
        clear h hh ht e0
        obtain ⟨c1, c2⟩ := c
        go_enter Try.func15, Try.ntmps15
        go_wp2_with fail
        refine (awake13_any _).mono ?_
        rintro e w1 ⟨rfl, hb1⟩
        have hb1z := hb1.size
        simp only [World.size_alloc] at hb1z
        have x1_0 : w1.cell? ⟨w.heap.size, 0, none⟩ = some (.int .i64 v) := (below_at hb1 (w.heap.size) 0 (by first | (simp; done) | (simp; omega))).trans (by simp [go_sem])
        have x1_1 : w1.cell? ⟨w.heap.size, 1, none⟩ = some (.slice A nn cp) := (below_at hb1 (w.heap.size) 1 (by first | (simp; done) | (simp; omega))).trans (by simp [go_sem])
        have x1_2 : w1.cell? ⟨w.heap.size, 2, none⟩ = some (.int .i64 tp) := (below_at hb1 (w.heap.size) 2 (by first | (simp; done) | (simp; omega))).trans (by simp [go_sem])
        have x1_3 : w1.cell? ⟨w.heap.size + 1, 0, none⟩ = some (.int .i64 c1) := (below_at hb1 (w.heap.size + 1) 0 (by first | (simp; done) | (simp; omega))).trans (by simp [go_sem])
        have x1_4 : w1.cell? ⟨w.heap.size + 1, 1, none⟩ = some (.int .i64 c2) := (below_at hb1 (w.heap.size + 1) 1 (by first | (simp; done) | (simp; omega))).trans (by simp [go_sem])
        have hbA1 : Below w.heap.size w w1 := (by have z0 := Below.size hb1; (try simp only [World.size_alloc, World.size_setCell, World.size_drew, size_drewN'] at z0 ⊢; skip); repeat' (first | (with_reducible exact Below.refl _ _) | (with_reducible assumption) | (with_reducible refine Below.alloc ?_ ?_ _) | (with_reducible refine Below.drew ?_) | (with_reducible refine below_drewN ?_ _) | (with_reducible refine Below.setCell ?_ ?_ _) | (with_reducible refine Below.trans ?_ (Below.mono (by with_reducible assumption) ?_)) | omega | (simp only [World.size_alloc, World.size_setCell, World.size_drew, size_drewN']; omega) | go_size))
        clear hb1
        go_wp2_with fail
        refine (K0.out _ hbA1).mono ?_
        rintro e w2 ⟨rfl, hb2⟩
        have hb2z := hb2.size
        have x2_0 := (below_at hb2 (w.heap.size) 0 (by omega)).trans x1_0
        have x2_1 := (below_at hb2 (w.heap.size) 1 (by omega)).trans x1_1
        have x2_2 := (below_at hb2 (w.heap.size) 2 (by omega)).trans x1_2
        have x2_3 := (below_at hb2 (w.heap.size + 1) 0 (by omega)).trans x1_3
        have x2_4 := (below_at hb2 (w.heap.size + 1) 1 (by omega)).trans x1_4
        have hbA2 : Below w.heap.size w w2 := (by have z0 := Below.size hbA1; have z1 := Below.size hb2; (try simp only [World.size_alloc, World.size_setCell, World.size_drew, size_drewN'] at z0 z1 ⊢; skip); repeat' (first | (with_reducible exact Below.refl _ _) | (with_reducible assumption) | (with_reducible refine Below.alloc ?_ ?_ _) | (with_reducible refine Below.drew ?_) | (with_reducible refine below_drewN ?_ _) | (with_reducible refine Below.setCell ?_ ?_ _) | (with_reducible refine Below.trans ?_ (Below.mono (by with_reducible assumption) ?_)) | omega | (simp only [World.size_alloc, World.size_setCell, World.size_drew, size_drewN']; omega) | go_size))
        clear x1_0 x1_1 x1_2 x1_3 x1_4 hb2 hbA1
        go_wp2_with fail
        refine (K2.out _ hbA2).mono ?_
        rintro e w3 ⟨rfl, hb3⟩
        have hb3z := hb3.size
        have x3_0 := (below_at hb3 (w.heap.size) 0 (by omega)).trans x2_0
        have x3_1 := (below_at hb3 (w.heap.size) 1 (by omega)).trans x2_1
        have x3_2 := (below_at hb3 (w.heap.size) 2 (by omega)).trans x2_2
        have x3_3 := (below_at hb3 (w.heap.size + 1) 0 (by omega)).trans x2_3
        have x3_4 := (below_at hb3 (w.heap.size + 1) 1 (by omega)).trans x2_4
        have hbA3 : Below w.heap.size w w3 := (by have z0 := Below.size hbA2; have z1 := Below.size hb3; (try simp only [World.size_alloc, World.size_setCell, World.size_drew, size_drewN'] at z0 z1 ⊢; skip); repeat' (first | (with_reducible exact Below.refl _ _) | (with_reducible assumption) | (with_reducible refine Below.alloc ?_ ?_ _) | (with_reducible refine Below.drew ?_) | (with_reducible refine below_drewN ?_ _) | (with_reducible refine Below.setCell ?_ ?_ _) | (with_reducible refine Below.trans ?_ (Below.mono (by with_reducible assumption) ?_)) | omega | (simp only [World.size_alloc, World.size_setCell, World.size_drew, size_drewN']; omega) | go_size))
        clear x2_0 x2_1 x2_2 x2_3 x2_4 hb3 hbA2
        go_wp2_with fail
        refine (K3.out _ hbA3).mono ?_
        rintro e w4 ⟨rfl, hb4⟩
        have hb4z := hb4.size
        have x4_0 := (below_at hb4 (w.heap.size) 0 (by omega)).trans x3_0
        have x4_1 := (below_at hb4 (w.heap.size) 1 (by omega)).trans x3_1
        have x4_2 := (below_at hb4 (w.heap.size) 2 (by omega)).trans x3_2
        have x4_3 := (below_at hb4 (w.heap.size + 1) 0 (by omega)).trans x3_3
        have x4_4 := (below_at hb4 (w.heap.size + 1) 1 (by omega)).trans x3_4
        have hbA4 : Below w.heap.size w w4 := (by have z0 := Below.size hbA3; have z1 := Below.size hb4; (try simp only [World.size_alloc, World.size_setCell, World.size_drew, size_drewN'] at z0 z1 ⊢; skip); repeat' (first | (with_reducible exact Below.refl _ _) | (with_reducible assumption) | (with_reducible refine Below.alloc ?_ ?_ _) | (with_reducible refine Below.drew ?_) | (with_reducible refine below_drewN ?_ _) | (with_reducible refine Below.setCell ?_ ?_ _) | (with_reducible refine Below.trans ?_ (Below.mono (by with_reducible assumption) ?_)) | omega | (simp only [World.size_alloc, World.size_setCell, World.size_drew, size_drewN']; omega) | go_size))
        clear x3_0 x3_1 x3_2 x3_3 x3_4 hb4 hbA3
        go_wp2_with fail
        refine (K1.out _ hbA4).mono ?_
        rintro e w5 ⟨rfl, hb5⟩
        have hb5z := hb5.size
        have hbA5 : Below w.heap.size w w5 := (by have z0 := Below.size hbA4; have z1 := Below.size hb5; (try simp only [World.size_alloc, World.size_setCell, World.size_drew, size_drewN'] at z0 z1 ⊢; skip); repeat' (first | (with_reducible exact Below.refl _ _) | (with_reducible assumption) | (with_reducible refine Below.alloc ?_ ?_ _) | (with_reducible refine Below.drew ?_) | (with_reducible refine below_drewN ?_ _) | (with_reducible refine Below.setCell ?_ ?_ _) | (with_reducible refine Below.trans ?_ (Below.mono (by with_reducible assumption) ?_)) | omega | (simp only [World.size_alloc, World.size_setCell, World.size_drew, size_drewN']; omega) | go_size))
        clear hb5 hbA4
        go_wp2_with (first | ((go_at_call 21; (with_reducible refine (num_n q _).mono ?_); rintro e _ ⟨rfl, rfl⟩)) | fail)
        go_returns
        exact ⟨by simp, hbA5⟩
end
end Go.Proofs.Ytedopalmfakeaaa
