/- Contracts of functions and lemmas, used by the proofs of the given statements. No condition beyond those that each lemma names. -/
import Derived.Test.YtoiopnmphbnjaaaGreatDoorJRatG
namespace Go.Proofs.YtoiopnmphbnjaaaGreatDoor
open Go.RowKit
set_option linter.unusedSimpArgs false
set_option linter.unusedVariables false
set_option maxRecDepth 20000
attribute [local irreducible] nv wp win plainB validR
/-! ## Sub, Cmp, of the program and of the reference -/
set_option maxHeartbeats 2000000 in
theorem subQ {w : World} {L : Nat} {v u : Value} {q r : Rat} (h : RdQ w L v q) (h' : RdQ w L u r) (hL : 1 ≤ L) (hL2 : L ≤ 100000000000) :
    Calls Tryz.prog 75 #[v, u] w fun e w' => RetQ w.heap.size (q - r) e w' ∧ Below w.heap.size w w' := by
  have K1 := Lib.hid (fun W (hb : Below w.heap.size w W) => neg_any (h'.below hb) hL hL2)
  have K2 := Lib.hid (fun W base v1 (hb : Below w.heap.size w W) (hv : OwQ W base v1 (-r)) => addQ (h.below hb) (hv.rq (h'.sz hL).neg) hL hL2)
  obtain ⟨s0, A0, n0, c0, B0, m0, d0, rfl⟩ := h.form
  obtain ⟨s9, A9, n9, c9, B9, m9, d9, rfl⟩ := h'.form
  clear h h'
  go_enter Tryz.func75, Tryz.ntmps75
  go_wp2
  have ne1 : ¬ (w.heap.size = w.heap.size + 1 + 1) := by omega
  have ne2 : ¬ (w.heap.size + 1 + 1 = w.heap.size) := by omega
  go_region_held3 (fun W => W.cell? ⟨w.heap.size, 0, none⟩ = some (.bool s0) ∧ W.cell? ⟨w.heap.size, 1, none⟩ = some (.slice A0 n0 c0) ∧ W.cell? ⟨w.heap.size, 2, none⟩ = some (.slice B0 m0 d0) ∧ W.cell? ⟨w.heap.size + 1, 0, none⟩ = some (.bool s9) ∧ W.cell? ⟨w.heap.size + 1, 1, none⟩ = some (.slice A9 n9 c9) ∧ W.cell? ⟨w.heap.size + 1, 2, none⟩ = some (.slice B9 m9 d9)) (go_keep)
    (first | ((go_at_call 31; (with_reducible refine (K1.out _ (by (skip); repeat' (first | (with_reducible exact Below.refl _ _) | (with_reducible assumption) | (with_reducible refine Below.alloc ?_ ?_ _) | (with_reducible refine Below.drew ?_) | (with_reducible refine below_drewN ?_ _) | (with_reducible refine Below.setCell ?_ ?_ _) | (with_reducible refine Below.trans ?_ (Below.mono (by with_reducible assumption) ?_)) | omega | (simp only [ZA, ZS, ZD, ZN]; omega) | go_size))).mono ?_); rintro e w1 ⟨⟨v1, rfl, own1⟩, hb1⟩; have hb1z := Below.size hb1; (try simp only [ZA, ZS, ZD] at hb1z); have hb1c0 := fun o => below_at hb1 (w.heap.size) o (by first | omega | (simp only [ZA, ZS, ZD]; omega)); have hb1f0 := fun o => below_fr hb1 (w.heap.size) o (by first | omega | (simp only [ZA, ZS, ZD]; omega)); have hb1l0 : w.heap.size < (w1).heap.size := (by omega); have hb1c1 := fun o => below_at hb1 (w.heap.size + 1) o (by first | omega | (simp only [ZA, ZS, ZD]; omega)); have hb1f1 := fun o => below_fr hb1 (w.heap.size + 1) o (by first | omega | (simp only [ZA, ZS, ZD]; omega)); have hb1l1 : w.heap.size + 1 < (w1).heap.size := (by omega); have hb1c2 := fun o => below_at hb1 (w.heap.size + 2) o (by first | omega | (simp only [ZA, ZS, ZD]; omega)); have hb1f2 := fun o => below_fr hb1 (w.heap.size + 2) o (by first | omega | (simp only [ZA, ZS, ZD]; omega)); have hb1l2 : w.heap.size + 2 < (w1).heap.size := (by omega)); obtain ⟨s1, A1, n1, c1, B1, m1, d1, rfl⟩ := own1.form) | ((go_at_call 22; (with_reducible refine (K2.out _ _ _ (by have z0 := Below.size hb1; (try simp only [ZA, ZS, ZD, ZN] at z0 ⊢; skip); repeat' (first | (with_reducible exact Below.refl _ _) | (with_reducible assumption) | (with_reducible refine Below.alloc ?_ ?_ _) | (with_reducible refine Below.drew ?_) | (with_reducible refine below_drewN ?_ _) | (with_reducible refine Below.setCell ?_ ?_ _) | (with_reducible refine Below.trans ?_ (Below.mono (by with_reducible assumption) ?_)) | omega | (simp only [ZA, ZS, ZD, ZN]; omega) | go_size)) own1).mono ?_); rintro e w2 ⟨⟨v2, rfl, own2⟩, hb2⟩; have hb2z := Below.size hb2; (try simp only [ZA, ZS, ZD] at hb2z); have hb2c0 := fun o => below_at hb2 (w.heap.size) o (by first | omega | (simp only [ZA, ZS, ZD]; omega)); have hb2f0 := fun o => below_fr hb2 (w.heap.size) o (by first | omega | (simp only [ZA, ZS, ZD]; omega)); have hb2l0 : w.heap.size < (w2).heap.size := (by omega); have hb2c1 := fun o => below_at hb2 (w.heap.size + 1) o (by first | omega | (simp only [ZA, ZS, ZD]; omega)); have hb2f1 := fun o => below_fr hb2 (w.heap.size + 1) o (by first | omega | (simp only [ZA, ZS, ZD]; omega)); have hb2l1 : w.heap.size + 1 < (w2).heap.size := (by omega); have hb2c2 := fun o => below_at hb2 (w.heap.size + 2) o (by first | omega | (simp only [ZA, ZS, ZD]; omega)); have hb2f2 := fun o => below_fr hb2 (w.heap.size + 2) o (by first | omega | (simp only [ZA, ZS, ZD]; omega)); have hb2l2 : w.heap.size + 2 < (w2).heap.size := (by omega)); obtain ⟨s2, A2, n2, c2, B2, m2, d2, rfl⟩ := own2.form))
  go_wp2
  refine bodyPost_ret (v := rv s2 A2 n2 c2 B2 m2 d2) (by simp [results, Tryz.results75, go_sem, hb2c2, hb1c2]) rfl ?_
  rw [Rat.sub_eq_add_neg]
  exact ⟨⟨_, rfl, own2.set3 (by omega) (by omega) _ _ _⟩, (by have z0 := Below.size hb1; have z1 := Below.size hb2; (try simp only [ZA, ZS, ZD, ZN] at z0 z1 ⊢; skip); repeat' (first | (with_reducible exact Below.refl _ _) | (with_reducible assumption) | (with_reducible refine Below.alloc ?_ ?_ _) | (with_reducible refine Below.drew ?_) | (with_reducible refine below_drewN ?_ _) | (with_reducible refine Below.setCell ?_ ?_ _) | (with_reducible refine Below.trans ?_ (Below.mono (by with_reducible assumption) ?_)) | omega | (simp only [ZA, ZS, ZD, ZN]; omega) | go_size))⟩
set_option maxHeartbeats 2000000 in
theorem cmpQ {w : World} {L : Nat} {v u : Value} {q r : Rat} (h : RdQ w L v q) (h' : RdQ w L u r) (hL : 1 ≤ L) (hL2 : L ≤ 10000000000) :
    Calls Tryz.prog 27 #[v, u] w fun e w' => e = .returned (.int .i64 (sgnQ (q - r))) ∧ Below w.heap.size w w' := by
  have hs := (h.sz hL).sub (h'.sz hL)
  have K1 := Lib.hid (fun W (hb : Below w.heap.size w W) => subQ (h.below hb) (h'.below hb) hL (by omega))
  have K2 := Lib.hid (fun W base v1 (hv : OwQ W base v1 (q - r)) => signQ (hv.rq hs) (by omega) (by omega))
  obtain ⟨s0, A0, n0, c0, B0, m0, d0, rfl⟩ := h.form
  obtain ⟨s9, A9, n9, c9, B9, m9, d9, rfl⟩ := h'.form
  clear h h' hs
  go_enter Tryz.func27, Tryz.ntmps27
  (go_wp2_with fail; (with_reducible refine (K1.out _ (by (skip); repeat' (first | (with_reducible exact Below.refl _ _) | (with_reducible assumption) | (with_reducible refine Below.alloc ?_ ?_ _) | (with_reducible refine Below.drew ?_) | (with_reducible refine below_drewN ?_ _) | (with_reducible refine Below.setCell ?_ ?_ _) | (with_reducible refine Below.trans ?_ (Below.mono (by with_reducible assumption) ?_)) | omega | (simp only [ZA, ZS, ZD, ZN]; omega) | go_size))).mono ?_); rintro e w1 ⟨⟨v1, rfl, own1⟩, hb1⟩; have hb1z := Below.size hb1; (try simp only [ZA, ZS, ZD, ZN] at hb1z); have hb1c0 := fun o => below_at hb1 (w.heap.size) o (by first | omega | (simp only [ZA, ZS, ZD, ZN]; omega)); have hb1f0 := fun o => below_fr hb1 (w.heap.size) o (by first | omega | (simp only [ZA, ZS, ZD, ZN]; omega)))
  obtain ⟨s1, A1, n1, c1, B1, m1, d1, rfl⟩ := own1.form
  (go_wp2_with fail; (with_reducible refine (K2.out _ _ _ own1).mono ?_); rintro e w2 ⟨rfl, hb2⟩; have hb2z := Below.size hb2; (try simp only [ZA, ZS, ZD, ZN] at hb2z); have hb2c0 := fun o => below_at hb2 (w.heap.size) o (by first | omega | (simp only [ZA, ZS, ZD, ZN]; omega)); have hb2f0 := fun o => below_fr hb2 (w.heap.size) o (by first | omega | (simp only [ZA, ZS, ZD, ZN]; omega)))
  go_wp2
  go_ret
  exact ⟨rfl, (by have z0 := Below.size hb1; have z1 := Below.size hb2; (try simp only [ZA, ZS, ZD, ZN] at z0 z1 ⊢; skip); repeat' (first | (with_reducible exact Below.refl _ _) | (with_reducible assumption) | (with_reducible refine Below.alloc ?_ ?_ _) | (with_reducible refine Below.drew ?_) | (with_reducible refine below_drewN ?_ _) | (with_reducible refine Below.setCell ?_ ?_ _) | (with_reducible refine Below.trans ?_ (Below.mono (by with_reducible assumption) ?_)) | omega | (simp only [ZA, ZS, ZD, ZN]; omega) | go_size))⟩
end Go.Proofs.YtoiopnmphbnjaaaGreatDoor
namespace Go.Proofs.YtoiopnmphbnjaaaGreatDoor
open Go.RowKit
set_option linter.unusedSimpArgs false
set_option linter.unusedVariables false
set_option maxRecDepth 20000
attribute [local irreducible] nv wp win plainB validR
/-! ## whole numbers as fractions, of the program and of the reference -/
theorem sq_nat (n : Nat) : sq false n 1 = (n : Rat) := by
  rw [sq_eq_div]
  have : ((1 : Nat) : Rat) = 1 := rfl
  rw [this]
  have h1 : (n : Rat) / 1 = n := by grind
  simpa using h1
/-- the two words of an int -/
def RetG (base x k : Nat) (e : Ending) (w' : World) : Prop := ∃ A c, e = .returned (.slice A k c) ∧ RdG w' A k c x
set_option maxHeartbeats 1000000 in
theorem rsize_nat (n : Nat) (w : World) (h : n < 4611686018427387904) :
    Calls Tryz.prog 152 #[.int .i64 (n : Int)] w fun e w' => RetG w.heap.size n 2 e w' ∧ Below w.heap.size w w' := by
  have e1 : IntKind.u32.wrap (n : Int) = ((n % 4294967296 : Nat) : Int) := by rw [IntKind.wrap_u32]; omega
  have e2 : IntKind.u32.wrap ((n : Int) / 4294967296) = ((n / 4294967296 : Nat) : Int) := by rw [IntKind.wrap_u32]; omega
  have e3 := Lib.hid (dig_two (n := n) (by omega))
  have hW : W32 [n % 4294967296, n / 4294967296] := W32.cons (by omega) (W32.one (by omega))
  generalize n % 4294967296 = x at *
  generalize n / 4294967296 = y at *
  have h3 : decide ((n : Int) < 0) = false := by simp
  go_enter Tryz.func152, Tryz.ntmps152
  go_wp2
  go_ret
  exact ⟨⟨_, _, rfl, [x, y], rfl, e3.out, hW, Nat.le_refl _, RdW.new2 (by simp) (by simp) (by simp)⟩, (by (skip); repeat' (first | (with_reducible exact Below.refl _ _) | (with_reducible assumption) | (with_reducible refine Below.alloc ?_ ?_ _) | (with_reducible refine Below.drew ?_) | (with_reducible refine below_drewN ?_ _) | (with_reducible refine Below.setCell ?_ ?_ _) | (with_reducible refine Below.trans ?_ (Below.mono (by with_reducible assumption) ?_)) | omega | (simp only [ZA, ZS, ZD, ZN]; omega) | go_size))⟩
set_option maxHeartbeats 1000000 in
theorem rmakeQ (n : Nat) (w : World) (h : n < 4611686018427387904) :
    Calls Tryz.prog 120 #[.int .i64 (n : Int), .int .i64 1] w fun e w' => RetDv w.heap.size (n : Rat) (.int .i64 0) e w' ∧ Below w.heap.size w w' := by
  have K := Lib.hid (fun W => rsize_nat n W h)
  have K0 : ∀ W, Calls Tryz.prog 152 #[.int .i64 1] W fun e w' => RetG W.heap.size 1 2 e w' ∧ Below W.heap.size W w' := fun W => rsize_nat 1 W (by omega)
  have K1 := Lib.hid K0
  clear K0
  have h3 : decide ((n : Int) < 0) = false := by simp
  go_enter Tryz.func120, Tryz.ntmps120
  (go_wp2_with fail; (with_reducible refine (K.out _).mono ?_); rintro e w1 ⟨⟨A1, c1, rfl, own1⟩, hb1⟩; have hb1z := Below.size hb1; (try simp only [ZA, ZS, ZD, ZN] at hb1z); have hb1c0 := fun o => below_at hb1 (w.heap.size) o (by first | omega | (simp only [ZA, ZS, ZD, ZN]; omega)); have hb1f0 := fun o => below_fr hb1 (w.heap.size) o (by first | omega | (simp only [ZA, ZS, ZD, ZN]; omega)))
  (go_wp2_with fail; (with_reducible refine (K1.out _).mono ?_); rintro e w2 ⟨⟨A2, c2, rfl, own2⟩, hb2⟩; have hb2z := Below.size hb2; (try simp only [ZA, ZS, ZD, ZN] at hb2z); have hb2c0 := fun o => below_at hb2 (w.heap.size) o (by first | omega | (simp only [ZA, ZS, ZD, ZN]; omega)); have hb2f0 := fun o => below_fr hb2 (w.heap.size) o (by first | omega | (simp only [ZA, ZS, ZD, ZN]; omega)))
  (go_wp2_with fail; (with_reducible refine (from_any false (own1.below hb2) own2 (by omega) (by omega) (by omega)).mono ?_); rintro e w3 ⟨⟨v, rfl, own⟩, hb3⟩; have hb3z := Below.size hb3; (try simp only [ZA, ZS, ZD, ZN] at hb3z); have hb3c0 := fun o => below_at hb3 (w.heap.size) o (by first | omega | (simp only [ZA, ZS, ZD, ZN]; omega)); have hb3f0 := fun o => below_fr hb3 (w.heap.size) o (by first | omega | (simp only [ZA, ZS, ZD, ZN]; omega)))
  obtain ⟨s2, A2, n2, c2, B2, m2, d2, rfl⟩ := own.form
  go_wp2
  refine bodyPost_ret (v := (.tuple #[rv s2 A2 n2 c2 B2 m2 d2, .int .i64 0])) (by simp [results, Tryz.results120, go_sem, hb3c0, hb2c0, hb1c0]) rfl ?_
  rw [← sq_nat]
  exact ⟨⟨_, rfl, own.set3 (by omega) (by omega) _ _ _⟩, (by have z0 := Below.size hb1; have z1 := Below.size hb2; have z2 := Below.size hb3; (try simp only [ZA, ZS, ZD, ZN] at z0 z1 z2 ⊢; skip); repeat' (first | (with_reducible exact Below.refl _ _) | (with_reducible assumption) | (with_reducible refine Below.alloc ?_ ?_ _) | (with_reducible refine Below.drew ?_) | (with_reducible refine below_drewN ?_ _) | (with_reducible refine Below.setCell ?_ ?_ _) | (with_reducible refine Below.trans ?_ (Below.mono (by with_reducible assumption) ?_)) | omega | (simp only [ZA, ZS, ZD, ZN]; omega) | go_size))⟩
set_option maxHeartbeats 1000000 in
theorem rofQ (n : Nat) (w : World) (h : n < 4611686018427387904) :
    Calls Tryz.prog 81 #[.int .i64 (n : Int)] w fun e w' => RetQ w.heap.size (n : Rat) e w' ∧ Below w.heap.size w w' := by
  have K := Lib.hid (fun W => rmakeQ n W h)
  go_enter Tryz.func81, Tryz.ntmps81
  (go_wp2_with fail; (with_reducible refine (K.out _).mono ?_); rintro e w1 ⟨⟨v, rfl, own⟩, hb1⟩; have hb1z := Below.size hb1; (try simp only [ZA, ZS, ZD, ZN] at hb1z); have hb1c0 := fun o => below_at hb1 (w.heap.size) o (by first | omega | (simp only [ZA, ZS, ZD, ZN]; omega)); have hb1f0 := fun o => below_fr hb1 (w.heap.size) o (by first | omega | (simp only [ZA, ZS, ZD, ZN]; omega)))
  obtain ⟨s2, A2, n2, c2, B2, m2, d2, rfl⟩ := own.form
  (have olc := fun o i => below_at ((Below.refl w1.heap.size w1).alloc (Nat.le_refl _) o) (w.heap.size) i (by omega)); (have olf := fun o i => below_fr ((Below.refl w1.heap.size w1).alloc (Nat.le_refl _) o) (w.heap.size) i (by omega))
  go_wp2
  refine bodyPost_ret (v := rv s2 A2 n2 c2 B2 m2 d2) (by simp [results, Tryz.results81, go_sem, olc, hb1c0]) rfl ?_
  exact ⟨⟨_, rfl, (own.alloc _).set3 (by simp) (by simp) _ _ _⟩, (by have z0 := Below.size hb1; (try simp only [ZA, ZS, ZD, ZN] at z0 ⊢; skip); repeat' (first | (with_reducible exact Below.refl _ _) | (with_reducible assumption) | (with_reducible refine Below.alloc ?_ ?_ _) | (with_reducible refine Below.drew ?_) | (with_reducible refine below_drewN ?_ _) | (with_reducible refine Below.setCell ?_ ?_ _) | (with_reducible refine Below.trans ?_ (Below.mono (by with_reducible assumption) ?_)) | omega | (simp only [ZA, ZS, ZD, ZN]; omega) | go_size))⟩
end Go.Proofs.YtoiopnmphbnjaaaGreatDoor
