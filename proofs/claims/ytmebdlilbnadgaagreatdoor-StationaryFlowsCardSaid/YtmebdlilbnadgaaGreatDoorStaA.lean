/- Contracts of functions and lemmas, used by the proofs of the given statements. No condition beyond those that each lemma names. -/
import Derived.Test.YtmebdlilbnadgaaGreatDoorJChX
namespace Go.Proofs.YtmebdlilbnadgaaGreatDoor
open Go.RowKit
set_option linter.unusedSimpArgs false
set_option linter.unusedVariables false
set_option maxRecDepth 20000
attribute [local irreducible] nv wp win plainB validR valR canR mvE chkM codeC exK
/-! ## package stationary: the functions that check and balanced hand to slices.ContainsFunc -/
theorem schk1_any {w : World} {b0 : Nat} {v : Value} {r : Rw} (h : RdS w b0 v r) (h1 : r.2.1.length ≤ 1000000000) (h2 : r.2.2.length ≤ 1000000000) :
    Calls Tryz.prog 107 #[v] w fun e w' => e = .returned (.bool (!validR r)) ∧ Below w.heap.size w w' := by
  have K := Lib.hid (fun W (hb : Below w.heap.size w W) => validSB (h.kp (Kp.of_below hb)) h1 h2)
  obtain ⟨s, A, n, c, B, m, d, rfl⟩ := h.form
  clear h
  go_enter Tryz.func107, Tryz.ntmps107
  (go_wp2_with fail; (with_reducible refine (K.out _ (by (skip); repeat' (first | (with_reducible exact Below.refl _ _) | (with_reducible assumption) | (with_reducible refine Below.alloc ?_ ?_ _) | (with_reducible refine Below.drew ?_) | (with_reducible refine below_drewN ?_ _) | (with_reducible refine Below.setCell ?_ ?_ _) | (with_reducible refine Below.trans ?_ (Below.mono (by with_reducible assumption) ?_)) | omega | (simp only [ZA, ZS, ZD, ZN]; omega) | go_size))).mono ?_); rintro e w1 ⟨rfl, hb1⟩; have hb1z := Below.size hb1; (try simp only [ZA, ZS, ZD, ZN] at hb1z))
  go_wp2
  go_ret
  exact ⟨rfl, (by have z0 := Below.size hb1; (try simp only [ZA, ZS, ZD, ZN] at z0 ⊢; skip); repeat' (first | (with_reducible exact Below.refl _ _) | (with_reducible assumption) | (with_reducible refine Below.alloc ?_ ?_ _) | (with_reducible refine Below.drew ?_) | (with_reducible refine below_drewN ?_ _) | (with_reducible refine Below.setCell ?_ ?_ _) | (with_reducible refine Below.trans ?_ (Below.mono (by with_reducible assumption) ?_)) | omega | (simp only [ZA, ZS, ZD, ZN]; omega) | go_size))⟩
set_option maxHeartbeats 4000000 in
/-- slices.IndexFunc with the function that finds invalid fractions -/
theorem sindex_any {w : World} {b0 n c : Nat} {A : Option Addr} {R : Nat → Rw} (h : RowA w b0 A n R) (hz : BigS n R) (hn : n ≤ 1000000) :
    Calls Tryz.prog 115 #[.slice A n c, .func (.func 107) #[] #[]] w fun e w' => (∃ z : Int, e = .returned (.int .i64 z) ∧ decide (0 ≤ z) = !allV n R) ∧ Below w.heap.size w w' := by
  have HA := Lib.hid h
  have HZ := Lib.hid hz
  clear h hz
  go_enter Tryz.func115, Tryz.ntmps115
  go_wp2
  go_loopw [8] (fun i wr => ∃ k : Nat, k ≤ n ∧ i = .int .i64 (k : Int) ∧ (∀ j, j < k → validR (R j) = true) ∧ Below w.heap.size w wr) (fun i _ => n - (intOf i).toNat)
  case atStart => exact ⟨0, Nat.zero_le _, rfl, fun j hj => by omega, Below.refl _ _⟩
  case round =>
    obtain ⟨k, hk, rfl, hv, hb⟩ := hrel
    have HV := Lib.hid hv
    clear hv
    have hbz := hb.size
    by_cases hlt : k < n
    · obtain ⟨b, off, s1, A1, n1, c1, B1, m1, d1, rfl, hbb, f0, f1, f2, r1⟩ := HA.out.at_ hlt
      obtain ⟨z1, z2⟩ := HZ.out k hlt
      have x0 := (hb.cell (lt_of_cell f0)).trans f0
      have x1 := (hb.cell (lt_of_cell f1)).trans f1
      have x2 := (hb.cell (lt_of_cell f2)).trans f2
      have K := Lib.hid (fun W (hb' : Below wr.heap.size wr W) => schk1_any (r1.kp (Kp.of_below (hb.trans (hb'.mono hbz)))) z1 z2)
      have hk0 : (0 : Int) ≤ (k : Int) := by omega
      have hki : (k : Int) < (n : Int) := by omega
      clear f0 f1 f2 r1
      cases hv : validR (R k)
      · rw [hv] at K
        have HN := Lib.hid (allV_no hlt hv)
        clear hv
        (go_wp2_with fail; (with_reducible refine (K.out _ (by (skip); repeat' (first | (with_reducible exact Below.refl _ _) | (with_reducible assumption) | (with_reducible refine Below.alloc ?_ ?_ _) | (with_reducible refine Below.drew ?_) | (with_reducible refine below_drewN ?_ _) | (with_reducible refine Below.setCell ?_ ?_ _) | (with_reducible refine Below.trans ?_ (Below.mono (by with_reducible assumption) ?_)) | omega | (simp only [ZA, ZS, ZD, ZN]; omega) | go_size))).mono ?_); rintro e w2 ⟨rfl, hb2⟩; have hb2z := Below.size hb2; (try simp only [ZA, ZS, ZD, ZN] at hb2z))
        go_wp2
        go_ret
        exact ⟨⟨k, rfl, by rw [HN.out]; simp⟩, hb.trans (by have z0 := Below.size hb2; (try simp only [ZA, ZS, ZD, ZN] at z0 ⊢; skip); repeat' (first | (with_reducible exact Below.refl _ _) | (with_reducible assumption) | (with_reducible refine Below.alloc ?_ ?_ _) | (with_reducible refine Below.drew ?_) | (with_reducible refine below_drewN ?_ _) | (with_reducible refine Below.setCell ?_ ?_ _) | (with_reducible refine Below.trans ?_ (Below.mono (by with_reducible assumption) ?_)) | omega | (simp only [ZA, ZS, ZD, ZN]; omega) | go_size))⟩
      · rw [hv] at K
        have HN := Lib.hid hv
        clear hv
        (go_wp2_with fail; (with_reducible refine (K.out _ (by (skip); repeat' (first | (with_reducible exact Below.refl _ _) | (with_reducible assumption) | (with_reducible refine Below.alloc ?_ ?_ _) | (with_reducible refine Below.drew ?_) | (with_reducible refine below_drewN ?_ _) | (with_reducible refine Below.setCell ?_ ?_ _) | (with_reducible refine Below.trans ?_ (Below.mono (by with_reducible assumption) ?_)) | omega | (simp only [ZA, ZS, ZD, ZN]; omega) | go_size))).mono ?_); rintro e w2 ⟨rfl, hb2⟩; have hb2z := Below.size hb2; (try simp only [ZA, ZS, ZD, ZN] at hb2z))
        go_wp2
        go_roundw
        case rel =>
          refine ⟨k + 1, by omega, by go_num, fun j hj => ?_, hb.trans (by have z0 := Below.size hb2; (try simp only [ZA, ZS, ZD, ZN] at z0 ⊢; skip); repeat' (first | (with_reducible exact Below.refl _ _) | (with_reducible assumption) | (with_reducible refine Below.alloc ?_ ?_ _) | (with_reducible refine Below.drew ?_) | (with_reducible refine below_drewN ?_ _) | (with_reducible refine Below.setCell ?_ ?_ _) | (with_reducible refine Below.trans ?_ (Below.mono (by with_reducible assumption) ?_)) | omega | (simp only [ZA, ZS, ZD, ZN]; omega) | go_size))⟩
          by_cases e : j = k
          · rw [e]; exact HN.out
          · exact HV.out j (by omega)
        case measure => simp [intOf]; omega
    · have : k = n := by omega
      subst this
      have HN := Lib.hid (allV_yes HV.out)
      go_wp2
      go_ret
      exact ⟨⟨-1, rfl, by rw [HN.out]; rfl⟩, hb⟩
theorem scontains_any {w : World} {b0 n c : Nat} {A : Option Addr} {R : Nat → Rw} (h : RowA w b0 A n R) (hz : BigS n R) (hn : n ≤ 1000000) :
    Calls Tryz.prog 76 #[.slice A n c, .func (.func 107) #[] #[]] w fun e w' => e = .returned (.bool (!allV n R)) ∧ Below w.heap.size w w' := by
  have K := Lib.hid (sindex_any (c := c) h hz hn)
  clear h hz
  go_enter Tryz.func76, Tryz.ntmps76
  (go_wp2_with fail; (with_reducible refine (K.out).mono ?_); rintro e w2 ⟨⟨z, rfl, hz⟩, hb2⟩; have hb2z := Below.size hb2; (try simp only [ZA, ZS, ZD, ZN] at hb2z))
  have HZ := Lib.hid hz
  clear hz
  go_wp2
  go_ret
  exact ⟨by rw [← HZ.out]; rfl, hb2⟩
/-- all of the first n are 0 -/
def allZ (n : Nat) (X : Nat → Rat) : Bool := decide (∀ s, s < n → X s = 0)
theorem allZ_yes {n : Nat} {X : Nat → Rat} (h : ∀ s, s < n → X s = 0) : allZ n X = true := decide_eq_true h
theorem allZ_no {n k : Nat} {X : Nat → Rat} (hk : k < n) (h : X k ≠ 0) : allZ n X = false := decide_eq_false fun h2 => h (h2 k hk)
theorem bal1_any {w : World} {L : Nat} {v : Value} {q : Rat} (h : RdQ w L v q) (hL : 1 ≤ L) (hL2 : L ≤ 1000000000) :
    Calls Tryz.prog 108 #[v] w fun e w' => e = .returned (.bool (sgnQ q != 0)) ∧ Below w.heap.size w w' := by
  have K := Lib.hid (fun W (hb : Below w.heap.size w W) => signQ (h.below hb) hL (by omega))
  obtain ⟨r, hr, -⟩ := h
  obtain ⟨s, A, n, c, B, m, d, rfl⟩ := hr.form
  clear hr
  go_enter Tryz.func108, Tryz.ntmps108
  (go_wp2_with fail; (with_reducible refine (K.out _ (by (skip); repeat' (first | (with_reducible exact Below.refl _ _) | (with_reducible assumption) | (with_reducible refine Below.alloc ?_ ?_ _) | (with_reducible refine Below.drew ?_) | (with_reducible refine below_drewN ?_ _) | (with_reducible refine Below.setCell ?_ ?_ _) | (with_reducible refine Below.trans ?_ (Below.mono (by with_reducible assumption) ?_)) | omega | (simp only [ZA, ZS, ZD, ZN]; omega) | go_size))).mono ?_); rintro e w1 ⟨rfl, hb1⟩; have hb1z := Below.size hb1; (try simp only [ZA, ZS, ZD, ZN] at hb1z))
  go_wp2
  go_ret
  exact ⟨rfl, (by have z0 := Below.size hb1; (try simp only [ZA, ZS, ZD, ZN] at z0 ⊢; skip); repeat' (first | (with_reducible exact Below.refl _ _) | (with_reducible assumption) | (with_reducible refine Below.alloc ?_ ?_ _) | (with_reducible refine Below.drew ?_) | (with_reducible refine below_drewN ?_ _) | (with_reducible refine Below.setCell ?_ ?_ _) | (with_reducible refine Below.trans ?_ (Below.mono (by with_reducible assumption) ?_)) | omega | (simp only [ZA, ZS, ZD, ZN]; omega) | go_size))⟩
set_option maxHeartbeats 4000000 in
/-- slices.IndexFunc with the function that finds invalid fractions -/
theorem bindex_any {w : World} {b0 n c : Nat} {A : Option Addr} {X : Nat → Rat} {L : Nat} (h : RowA w b0 A n (can X)) (hz : ∀ s, s < n → Sz L (X s)) (hL : 1 ≤ L) (hL2 : L ≤ 1000000000) (hn : n ≤ 1000000) :
    Calls Tryz.prog 115 #[.slice A n c, .func (.func 108) #[] #[]] w fun e w' => (∃ z : Int, e = .returned (.int .i64 z) ∧ decide (0 ≤ z) = !allZ n X) ∧ Below w.heap.size w w' := by
  have HA := Lib.hid h
  have HZ := Lib.hid hz
  clear h hz
  go_enter Tryz.func115, Tryz.ntmps115
  go_wp2
  go_loopw [8] (fun i wr => ∃ k : Nat, k ≤ n ∧ i = .int .i64 (k : Int) ∧ (∀ j, j < k → X j = 0) ∧ Below w.heap.size w wr) (fun i _ => n - (intOf i).toNat)
  case atStart => exact ⟨0, Nat.zero_le _, rfl, fun j hj => by omega, Below.refl _ _⟩
  case round =>
    obtain ⟨k, hk, rfl, hv, hb⟩ := hrel
    have HV := Lib.hid hv
    clear hv
    have hbz := hb.size
    by_cases hlt : k < n
    · obtain ⟨b, off, s1, A1, n1, c1, B1, m1, d1, rfl, hbb, f0, f1, f2, r1⟩ := HA.out.at_ hlt
      have z1 := HZ.out k hlt
      have x0 := (hb.cell (lt_of_cell f0)).trans f0
      have x1 := (hb.cell (lt_of_cell f1)).trans f1
      have x2 := (hb.cell (lt_of_cell f2)).trans f2
      have K := Lib.hid (fun W (hb' : Below wr.heap.size wr W) => bal1_any ((show RdS W _ _ (canR (X k)) from r1.kp (Kp.of_below (hb.trans (hb'.mono hbz)))).canQ z1) hL hL2)
      have hk0 : (0 : Int) ≤ (k : Int) := by omega
      have hki : (k : Int) < (n : Int) := by omega
      clear f0 f1 f2 r1
      by_cases hv : X k = 0
      · rw [sgnQ_zero.2 hv] at K
        have HN := Lib.hid hv
        clear hv
        (go_wp2_with fail; (with_reducible refine (K.out _ (by (skip); repeat' (first | (with_reducible exact Below.refl _ _) | (with_reducible assumption) | (with_reducible refine Below.alloc ?_ ?_ _) | (with_reducible refine Below.drew ?_) | (with_reducible refine below_drewN ?_ _) | (with_reducible refine Below.setCell ?_ ?_ _) | (with_reducible refine Below.trans ?_ (Below.mono (by with_reducible assumption) ?_)) | omega | (simp only [ZA, ZS, ZD, ZN]; omega) | go_size))).mono ?_); rintro e w2 ⟨rfl, hb2⟩; have hb2z := Below.size hb2; (try simp only [ZA, ZS, ZD, ZN] at hb2z))
        go_wp2
        go_roundw
        case rel =>
          refine ⟨k + 1, by omega, by go_num, fun j hj => ?_, hb.trans (by have z0 := Below.size hb2; (try simp only [ZA, ZS, ZD, ZN] at z0 ⊢; skip); repeat' (first | (with_reducible exact Below.refl _ _) | (with_reducible assumption) | (with_reducible refine Below.alloc ?_ ?_ _) | (with_reducible refine Below.drew ?_) | (with_reducible refine below_drewN ?_ _) | (with_reducible refine Below.setCell ?_ ?_ _) | (with_reducible refine Below.trans ?_ (Below.mono (by with_reducible assumption) ?_)) | omega | (simp only [ZA, ZS, ZD, ZN]; omega) | go_size))⟩
          by_cases e : j = k
          · rw [e]; exact HN.out
          · exact HV.out j (by omega)
        case measure => simp [intOf]; omega
      · have hs : (sgnQ (X k) != 0) = true := sgn_ne hv
        rw [hs] at K
        have HN := Lib.hid (allZ_no hlt hv)
        clear hv hs
        (go_wp2_with fail; (with_reducible refine (K.out _ (by (skip); repeat' (first | (with_reducible exact Below.refl _ _) | (with_reducible assumption) | (with_reducible refine Below.alloc ?_ ?_ _) | (with_reducible refine Below.drew ?_) | (with_reducible refine below_drewN ?_ _) | (with_reducible refine Below.setCell ?_ ?_ _) | (with_reducible refine Below.trans ?_ (Below.mono (by with_reducible assumption) ?_)) | omega | (simp only [ZA, ZS, ZD, ZN]; omega) | go_size))).mono ?_); rintro e w2 ⟨rfl, hb2⟩; have hb2z := Below.size hb2; (try simp only [ZA, ZS, ZD, ZN] at hb2z))
        go_wp2
        go_ret
        exact ⟨⟨k, rfl, by rw [HN.out]; simp⟩, hb.trans (by have z0 := Below.size hb2; (try simp only [ZA, ZS, ZD, ZN] at z0 ⊢; skip); repeat' (first | (with_reducible exact Below.refl _ _) | (with_reducible assumption) | (with_reducible refine Below.alloc ?_ ?_ _) | (with_reducible refine Below.drew ?_) | (with_reducible refine below_drewN ?_ _) | (with_reducible refine Below.setCell ?_ ?_ _) | (with_reducible refine Below.trans ?_ (Below.mono (by with_reducible assumption) ?_)) | omega | (simp only [ZA, ZS, ZD, ZN]; omega) | go_size))⟩
    · have : k = n := by omega
      subst this
      have HN := Lib.hid (allZ_yes HV.out)
      go_wp2
      go_ret
      exact ⟨⟨-1, rfl, by rw [HN.out]; rfl⟩, hb⟩
theorem bcontains_any {w : World} {b0 n c : Nat} {A : Option Addr} {X : Nat → Rat} {L : Nat} (h : RowA w b0 A n (can X)) (hz : ∀ s, s < n → Sz L (X s)) (hL : 1 ≤ L) (hL2 : L ≤ 1000000000) (hn : n ≤ 1000000) :
    Calls Tryz.prog 76 #[.slice A n c, .func (.func 108) #[] #[]] w fun e w' => e = .returned (.bool (!allZ n X)) ∧ Below w.heap.size w w' := by
  have K := Lib.hid (bindex_any (c := c) h hz hL hL2 hn)
  clear h hz
  go_enter Tryz.func76, Tryz.ntmps76
  (go_wp2_with fail; (with_reducible refine (K.out).mono ?_); rintro e w2 ⟨⟨z, rfl, hz⟩, hb2⟩; have hb2z := Below.size hb2; (try simp only [ZA, ZS, ZD, ZN] at hb2z))
  have HZ := Lib.hid hz
  clear hz
  go_wp2
  go_ret
  exact ⟨by rw [← HZ.out]; rfl, hb2⟩
end Go.Proofs.YtmebdlilbnadgaaGreatDoor
