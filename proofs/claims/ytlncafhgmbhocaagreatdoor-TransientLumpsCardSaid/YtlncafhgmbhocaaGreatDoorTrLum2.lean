/- Contracts of functions and lemmas, used by the proofs of the given statements. No condition beyond those that each lemma names. -/
import Derived.Test.YtlncafhgmbhocaaGreatDoorJLmQ7
import Derived.Test.YtlncafhgmbhocaaGreatDoorJTrW6
import Derived.Test.YtlncafhgmbhocaaGreatDoorLawTrV
import Derived.Test.YtlncafhgmbhocaaGreatDoorJTrAw
import Derived.Test.YtlncafhgmbhocaaGreatDoorJRatK
namespace Go.Proofs.YtlncafhgmbhocaaGreatDoor
open Go.RowKit
set_option linter.unusedSimpArgs false
set_option linter.unusedVariables false
set_option maxRecDepth 20000
attribute [local irreducible] nv wp win plainB validR valR canR mvE chkM codeC exK maxF dsum
/-! ## TransientLumps -/
/-- After, where it answers: a row in a block of its own -/
theorem RowA.raise0 {w : World} {b0 g d n : Nat} {R : Nat → Rw} (h : OwR w b0 (some ⟨g, 0, none⟩) d n R) : RowA w w.heap.size (some ⟨g, 0, none⟩) n R := by
  have h1 := h.block.1
  have h2 := h.lt
  exact RowA.base h.ra (by omega)
theorem after_own {w : World} {AM AD : Option Addr} {cm cd L m : Nat} {c : Chn} {v : Value} {r : Rw} (h : ChI w w.heap.size AM cm AD cd c) (hs : ChS c L) (hr : RdS w w.heap.size v r) (hr1 : r.2.1.length ≤ 4) (hr2 : r.2.2.length ≤ 4)
    (hst : c.codeN r (m : Int) = 0 → ∀ k : Nat, (k : Int) < (m : Int) → StS c (valR r) (c.run false (valR r) k) L) (h0 : c.codeN r (m : Int) = 0) (hn0 : 0 < c.nd) :
    Calls Tryz.prog 35 #[cv c.st c.sr AM c.nm cm AD c.nd cd, v, .int .i64 (m : Int)] w fun e w' => (∃ g k b0, e = .returned (.tuple #[.slice (some ⟨g, 0, none⟩) c.nd k, .nilIface]) ∧ w.heap.size ≤ g ∧ OwR w' b0 (some ⟨g, 0, none⟩) k c.nd (can (c.run false (valR r) m))) ∧ Below w.heap.size w w' := by
  have K1 : Hid (∀ W, Below w.heap.size w W → Calls Tryz.prog 74 #[cv c.st c.sr AM c.nm cm AD c.nd cd, v, .int .i64 (m : Int), .bool false] W fun e w' => (∃ A k, e = .returned (.tuple #[.slice A (m + 1) k, .nilIface]) ∧ MatO w' (W.heap.size + 2) A k (m + 1) (fun _ => c.nd) (c.run false (valR r))) ∧ Below W.heap.size W w') := fun W hb => (run_any false (h.below hb) hs ((hr.kp (Kp.of_below hb)).base hb.size) hr1 hr2 hst).mono fun e w' ⟨hR, hb2⟩ => by
    unfold RetRun at hR
    rw [if_pos h0, Int.toNat_natCast] at hR
    exact ⟨hR, hb2⟩
  obtain ⟨-, -, hm9⟩ := Chn.codeN_0 h0
  obtain ⟨X, hX⟩ : ∃ X, X = c.run false (valR r) := ⟨_, rfl⟩
  rw [← hX] at K1 ⊢
  obtain ⟨s0, A0, n0, c0, B0, m0, d0, rfl⟩ := hr.form
  have hm9 : m ≤ 48 := by omega
  clear hX h0 h hs hr hst
  obtain ⟨st, sr, nm, F, T, R', nd, D⟩ := c
  simp only at *
  go_enter Tryz.func35, Tryz.ntmps35
  (go_wp2_with fail; (with_reducible refine (K1.out _ (by (skip); repeat' (first | (with_reducible exact Below.refl _ _) | (with_reducible assumption) | (with_reducible refine Below.alloc ?_ ?_ _) | (with_reducible refine Below.drew ?_) | (with_reducible refine below_drewN ?_ _) | (with_reducible refine Below.setCell ?_ ?_ _) | (with_reducible refine Below.trans ?_ (Below.mono (by with_reducible assumption) ?_)) | omega | (simp only [ZA, ZS, ZD, ZN]; omega) | go_size))).mono ?_); rintro e w1 ⟨⟨A1, c1, rfl, mo⟩, hb1⟩; have hb1z := Below.size hb1; (try simp only [ZA, ZS, ZD, ZN] at hb1z); have hb1c0 := fun o => below_at hb1 (w.heap.size) o (by first | omega | (simp only [ZA, ZS, ZD, ZN]; omega)); have hb1f0 := fun o => below_fr hb1 (w.heap.size) o (by first | omega | (simp only [ZA, ZS, ZD, ZN]; omega)); have hb1c1 := fun o => below_at hb1 (w.heap.size + 1) o (by first | omega | (simp only [ZA, ZS, ZD, ZN]; omega)); have hb1f1 := fun o => below_fr hb1 (w.heap.size + 1) o (by first | omega | (simp only [ZA, ZS, ZD, ZN]; omega)))
  obtain ⟨g, Aj, cj, rfl, hbg, hg, hcg, ow⟩ := mo.at_ (show m < m + 1 by omega)
  try simp only at hcg ow
  obtain ⟨g2, rfl⟩ := ow.head hn0
  have hg2 := ow.block.1
  have HO := Lib.hid ow
  clear mo ow
  have hmi : (m : Int) < (m : Int) + 1 := by omega
  go_wp2
  go_ret2
  exact ⟨⟨_, _, _, rfl, by simp at hg2; omega, HO.out⟩, (by have z0 := Below.size hb1; (try simp only [ZA, ZS, ZD, ZN] at z0 ⊢; skip); repeat' (first | (with_reducible exact Below.refl _ _) | (with_reducible assumption) | (with_reducible refine Below.alloc ?_ ?_ _) | (with_reducible refine Below.drew ?_) | (with_reducible refine below_drewN ?_ _) | (with_reducible refine Below.setCell ?_ ?_ _) | (with_reducible refine Below.trans ?_ (Below.mono (by with_reducible assumption) ?_)) | omega | (simp only [ZA, ZS, ZD, ZN]; omega) | go_size))⟩
set_option maxHeartbeats 32000000 in
theorem transientLumps_law {w : World} {AM AD : Option Addr} {cm cd p : Nat} {c : Chn} {v : Value} {r : Rw} (h : ChI w w.heap.size AM cm AD cd c) (hr : RdS w w.heap.size v r) (hp : p < 256) :
    Calls Tryz.prog 9 #[cv c.st c.sr AM c.nm cm AD c.nd cd, v, .int .u8 (p : Int)] w fun e w' => e = .returned (.bool true) ∧ Below w.heap.size w w' := by
  have KV := Lib.hid (fun W (hb : Below w.heap.size w W) => valid_law (h.below hb) ((hr.kp (Kp.of_below hb)).base hb.size))
  have HI := Lib.hid (fun W (hb : Below w.heap.size w W) => h.below hb)
  have HRR := Lib.hid (fun W (hb : Below w.heap.size w W) => (hr.kp (Kp.of_below hb)).base hb.size)
  have HOK := Lib.hid hr.ok
  have HSm := Lib.hid (fun (hf : FewP c) => hf.small h)
  obtain ⟨s0, A0, n0, c0, B0, m0, d0, rfl⟩ := hr.form
  have hbA : Below w.heap.size w ((w.alloc (.cells #[.int .i64 c.st, .int .i64 c.sr, .slice AM c.nm cm, .slice AD c.nd cd] 25)).alloc (.cells #[.bool s0, .slice A0 n0 c0, .slice B0 m0 d0] 44)) := ((Below.refl _ _).alloc (Nat.le_refl _) _).alloc (by simp) _
  have HBA := Lib.hid hbA
  clear h hr hbA
  go_enter Tryz.func9, Tryz.ntmps9
  (go_wp2_with fail; (with_reducible refine (KV.out _ HBA.out).mono ?_); rintro e w1 ⟨⟨bb, rfl, hbb⟩, hb1⟩; have hb1z := Below.size hb1; (try simp only [ZA, ZS, ZD, ZN] at hb1z); have hb1c0 := fun o => below_at hb1 (w.heap.size) o (by first | omega | (simp only [ZA, ZS, ZD, ZN]; omega)); have hb1f0 := fun o => below_fr hb1 (w.heap.size) o (by first | omega | (simp only [ZA, ZS, ZD, ZN]; omega)); have hb1c1 := fun o => below_at hb1 (w.heap.size + 1) o (by first | omega | (simp only [ZA, ZS, ZD, ZN]; omega)); have hb1f1 := fun o => below_fr hb1 (w.heap.size + 1) o (by first | omega | (simp only [ZA, ZS, ZD, ZN]; omega)))
  have hB1 : Below w.heap.size w w1 := HBA.out.trans (hb1.mono (by simp; omega))
  cases bb with
  | false =>
    clear hbb
    (go_wp2_with fail; (with_reducible refine (awake_any _).mono ?_); rintro e w2 ⟨rfl, hb2⟩; have hb2z := Below.size hb2; (try simp only [ZA, ZS, ZD, ZN] at hb2z))
    go_wp2
    go_ret
    exact ⟨rfl, hB1.trans (hb2.mono hB1.size)⟩
  | true =>
    have HP := Lib.hid (hbb rfl)
    have HS := Lib.hid (HSm.out (hbb rfl).few)
    clear hbb
    have ok := HP.out.okc.1
    have hpos := HP.out.okc.2.1
    have hS := HS.out
    have hrs : Sz 4 (valR r) := Sz_valR HOK.out (by omega) HP.out.l1 HP.out.l2
    obtain ⟨k, hk⟩ : ∃ k, k = p % 6 := ⟨_, rfl⟩
    have hk5 : k ≤ 5 := by omega
    have t1 : Int.tmod (p : Int) 6 = (k : Int) := by rw [Int.tmod_eq_emod_of_nonneg (by omega), hk]; rfl
    have t3 : (p : Int) % 6 = (k : Int) := by rw [hk]; rfl
    have t5 : IntKind.i64.wrap (k : Int) = (k : Int) := by rw [IntKind.wrap_i64]; omega
    have KB : Hid (∀ W, Below w.heap.size w W → Calls Tryz.prog 22 #[cv c.st c.sr AM c.nm cm AD c.nd cd] W fun e w' => (∃ A d, e = .returned (.tuple #[.slice A c.nd d, .nilIface]) ∧ PaI w' A c.nd (fun i => ((bydF c.D i : Nat) : Int))) ∧ Below W.heap.size W w') := fun W hb => byd_ok (HI.out W hb) hS.chS ok
    have KC : Hid (∀ W A d, Below w.heap.size w W → PaI W A c.nd (fun i => ((bydF c.D i : Nat) : Int)) → Calls Tryz.prog 23 #[cv c.st c.sr AM c.nm cm AD c.nd cd, .slice A c.nd d] W fun e w' => (∃ A d, e = .returned (.tuple #[.slice A c.nd d, .nilIface]) ∧ PaI w' A c.nd (fun i => ((c.crD i : Nat) : Int))) ∧ Below W.heap.size W w') := fun W A d hb hA => crs_ok (HI.out W hb) hS.chS hS.smS ok hA
    have KQ : Hid (∀ W A d, Below w.heap.size w W → PaI W A c.nd (fun i => ((c.crD i : Nat) : Int)) → Calls Tryz.prog 12 #[cv c.st c.sr AM c.nm cm AD c.nd cd, .slice A c.nd d] W fun e w' => AnsC errM 0 (c.quo c.crD) e w' ∧ Below W.heap.size W w') := fun W A d hb hA => quo_ok (HI.out W hb) hS.chS hS.smS ok hA
    have hcN : c.codeN r (k : Int) = 0 := by
      unfold Chn.codeN
      rw [if_neg (by have := HP.out.code; omega), if_neg (by omega)]
    have hqN : (c.quo c.crD).codeN r (k : Int) = 0 := Chn.quo_codeN ok HP.out.code (by omega) (by omega)
    have KA1 : Hid (∀ W, Below w.heap.size w W → Calls Tryz.prog 35 #[cv c.st c.sr AM c.nm cm AD c.nd cd, rv s0 A0 n0 c0 B0 m0 d0, .int .i64 (k : Int)] W fun e w' => (∃ A d, e = .returned (.tuple #[.slice A c.nd d, .nilIface]) ∧ RowA w' w'.heap.size A c.nd (can (c.run false (valR r) k))) ∧ Below W.heap.size W w') := fun W hb => (after_own (HI.out W hb) hS.chS (HRR.out W hb) HP.out.l1 HP.out.l2 (fun _ j hj => hS.runS ok hpos hrs false (by omega)) hcN ok.lo).mono fun e w' ⟨⟨g, d, b0, e1, h1, h2⟩, h3⟩ => ⟨⟨_, _, e1, RowA.raise0 h2⟩, h3⟩
    obtain ⟨X, hX⟩ : ∃ X, X = c.quo c.crD := ⟨_, rfl⟩
    have hXo : X.Ok := by rw [hX]; exact Chn.quo_ok ok _
    have hXs : ChS X 400 := by rw [hX]; exact hS.quo_chS ok _
    have KA2 : Hid (∀ W A a B b, Below w.heap.size w W → ChI W W.heap.size A a B b X → Calls Tryz.prog 35 #[cv X.st X.sr A X.nm a B X.nd b, rv s0 A0 n0 c0 B0 m0 d0, .int .i64 (k : Int)] W fun e w' => (∃ g d b0, e = .returned (.tuple #[.slice (some ⟨g, 0, none⟩) X.nd d, .nilIface]) ∧ W.heap.size ≤ g ∧ OwR w' b0 (some ⟨g, 0, none⟩) d X.nd (can (X.run false (valR r) k))) ∧ Below W.heap.size W w') := fun W A a B b hb hi => after_own hi hXs (HRR.out W hb) HP.out.l1 HP.out.l2 (fun _ j hj => by rw [hX]; exact hS.quo_stS ok _ hpos hrs false (by omega)) (by rw [hX]; exact hqN) hXo.lo
    have HPL : Hid (∀ i, i < c.nd → c.crD i < X.nd) := fun i hi => by
      rw [hX]
      exact blk_lt (n := c.nd) (fun i => by rw [Chn.crD_nrm]) hi
    obtain ⟨Cu, hCu⟩ : ∃ Cu : Nat → Nat → Rat, Cu = c.cut (valR r) k := ⟨_, rfl⟩
    have HC0 : Hid (∀ b, Cu 0 b = X.run false (valR r) k b) := fun b => by
      rw [hCu, hX]
      show _ - sumN _ 0 = _
      rw [sumN]
      grind
    obtain ⟨Y, hY⟩ : ∃ Y, Y = c.run false (valR r) k := ⟨_, rfl⟩
    obtain ⟨CR, hCR⟩ : ∃ CR, CR = c.crD := ⟨_, rfl⟩
    have HCS : Hid (∀ j, Cu (j + 1) = upd (Cu j) (CR j) (Cu j (CR j) - Y j)) := fun j => by rw [hCu, hCR, hY]; exact Chn.cut_step c (valR r) k j
    have HCE : Hid (∀ b, b < X.nd → Cu c.nd b = 0) := fun b hb => by rw [hCu]; rw [hX] at hb; exact Chn.cut_end ok hb
    have HCZ : Hid (∀ j, j ≤ c.nd → ∀ b, Sz 400 (Cu j b)) := fun j hj b => by rw [hCu]; exact hS.cut_sz ok hpos hrs hk5 hj b
    have HYZ : Hid (∀ b, Sz 400 (Y b)) := fun b => by rw [hY]; exact ((hS.run ok hpos hrs false k).sz (by omega) b).more (by omega)
    have hXst : X.st = (X.nd : Int) := hXo.st
    have hst : c.st = (c.nd : Int) := ok.st
    have hn9 : c.nd ≤ 256 := ok.hi
    have hxn : X.nd ≤ 256 := hXo.hi
    have eX : ((X.nd : Int) != (X.nd : Int)) = false := by simp
    have eC : ((c.nd : Int) != (c.nd : Int)) = false := by simp
    rw [← hX] at KQ
    rw [← hY] at KA1
    rw [← hCR] at KC KQ HPL
    obtain ⟨Z, hZ⟩ : ∃ Z, Z = X.run false (valR r) k := ⟨_, rfl⟩
    rw [← hZ] at KA2 HC0
    rw [hXst] at KA2
    clear hk hX hXo hXs hZ hY hCR hCu hcN hqN ok hpos hS hrs HP HS HI HRR HOK HSm KV
    (go_wp2_with fail; (with_reducible refine (awake_any _).mono ?_); rintro e w2 ⟨rfl, hb2⟩; have hb2z := Below.size hb2; (try simp only [ZA, ZS, ZD, ZN] at hb2z); have hb2c0 := fun o => below_at hb2 (w.heap.size) o (by first | omega | (simp only [ZA, ZS, ZD, ZN]; omega)); have hb2f0 := fun o => below_fr hb2 (w.heap.size) o (by first | omega | (simp only [ZA, ZS, ZD, ZN]; omega)); have hb2c1 := fun o => below_at hb2 (w.heap.size + 1) o (by first | omega | (simp only [ZA, ZS, ZD, ZN]; omega)); have hb2f1 := fun o => below_fr hb2 (w.heap.size + 1) o (by first | omega | (simp only [ZA, ZS, ZD, ZN]; omega)))
    have hB2 : Below w.heap.size w w2 := hB1.trans (hb2.mono hB1.size)
    have hw2 : w.heap.size + 1 < w2.heap.size := by have := hb1.size; have := hb2.size; simp at *; omega
    have y0 : w2.cell? ⟨w.heap.size, 0, none⟩ = some (.int .i64 (c.nd : Int)) := by rw [hb2c0, hb1c0, ← hst]; simp
    have y1 : w2.cell? ⟨w.heap.size, 1, none⟩ = some (.int .i64 c.sr) := by rw [hb2c0, hb1c0]; simp
    have y2 : w2.cell? ⟨w.heap.size, 2, none⟩ = some (.slice AM c.nm cm) := by rw [hb2c0, hb1c0]; simp
    have y3 : w2.cell? ⟨w.heap.size, 3, none⟩ = some (.slice AD c.nd cd) := by rw [hb2c0, hb1c0]; simp
    have y4 : w2.cell? ⟨w.heap.size + 1, 0, none⟩ = some (.bool s0) := by rw [hb2c1, hb1c1]; simp
    have y5 : w2.cell? ⟨w.heap.size + 1, 1, none⟩ = some (.slice A0 n0 c0) := by rw [hb2c1, hb1c1]; simp
    have y6 : w2.cell? ⟨w.heap.size + 1, 2, none⟩ = some (.slice B0 m0 d0) := by rw [hb2c1, hb1c1]; simp
    rw [hst] at KB KC KQ KA1
    clear hb1c0 hb1c1 hb2c0 hb2c1 hb1f0 hb1f1 hb2f0 hb2f1
    (go_wp2_with fail; (with_reducible refine (KB.out _ hB2).mono ?_); rintro e w4 ⟨⟨A4, c4, rfl, r4⟩, hb4⟩; have hb4z := Below.size hb4; (try simp only [ZA, ZS, ZD, ZN] at hb4z); have hb4c0 := fun o => below_at hb4 (w.heap.size) o (by first | omega | (simp only [ZA, ZS, ZD, ZN]; omega)); have hb4f0 := fun o => below_fr hb4 (w.heap.size) o (by first | omega | (simp only [ZA, ZS, ZD, ZN]; omega)); have hb4c1 := fun o => below_at hb4 (w.heap.size + 1) o (by first | omega | (simp only [ZA, ZS, ZD, ZN]; omega)); have hb4f1 := fun o => below_fr hb4 (w.heap.size + 1) o (by first | omega | (simp only [ZA, ZS, ZD, ZN]; omega)))
    have hB4 : Below w.heap.size w w4 := hB2.trans (hb4.mono hB2.size)
    (go_wp2_with fail; (with_reducible refine (KC.out _ _ _ hB4 r4).mono ?_); rintro e w5 ⟨⟨A5, c5, rfl, r5⟩, hb5⟩; have hb5z := Below.size hb5; (try simp only [ZA, ZS, ZD, ZN] at hb5z); have hb5c0 := fun o => below_at hb5 (w.heap.size) o (by first | omega | (simp only [ZA, ZS, ZD, ZN]; omega)); have hb5f0 := fun o => below_fr hb5 (w.heap.size) o (by first | omega | (simp only [ZA, ZS, ZD, ZN]; omega)); have hb5c1 := fun o => below_at hb5 (w.heap.size + 1) o (by first | omega | (simp only [ZA, ZS, ZD, ZN]; omega)); have hb5f1 := fun o => below_fr hb5 (w.heap.size + 1) o (by first | omega | (simp only [ZA, ZS, ZD, ZN]; omega)))
    have hB5 : Below w.heap.size w w5 := hB4.trans (hb5.mono hB4.size)
    have HR5 := Lib.hid r5
    (go_wp2_with fail; (with_reducible refine (KQ.out _ _ _ hB5 r5).mono ?_); rintro e w6 ⟨⟨A6, a6, B6, b6, rfl, i6⟩, hb6⟩; have hb6z := Below.size hb6; (try simp only [ZA, ZS, ZD, ZN] at hb6z); have hb6c0 := fun o => below_at hb6 (w.heap.size) o (by first | omega | (simp only [ZA, ZS, ZD, ZN]; omega)); have hb6f0 := fun o => below_fr hb6 (w.heap.size) o (by first | omega | (simp only [ZA, ZS, ZD, ZN]; omega)); have hb6c1 := fun o => below_at hb6 (w.heap.size + 1) o (by first | omega | (simp only [ZA, ZS, ZD, ZN]; omega)); have hb6f1 := fun o => below_fr hb6 (w.heap.size + 1) o (by first | omega | (simp only [ZA, ZS, ZD, ZN]; omega)))
    rw [errM_0]
    have hB6 : Below w.heap.size w w6 := hB5.trans (hb6.mono hB5.size)
    have h67 : Below w6.heap.size w6 (w6.alloc (.cells #[.int .i64 X.st, .int .i64 X.sr, .slice A6 X.nm a6, .slice B6 X.nd b6] 25)) := (Below.refl _ _).alloc (Nat.le_refl _) _
    have HI6 := Lib.hid (fun W (hb : Below w6.heap.size w6 W) => i6.below hb)
    have H67 := Lib.hid h67
    have HB6 := Lib.hid hB6
    have HP6 := Lib.hid (HR5.out.below hb6)
    have z0 := (hb6c0 0).trans ((hb5c0 0).trans ((hb4c0 0).trans y0))
    have z4 := (hb6c1 0).trans ((hb5c1 0).trans ((hb4c1 0).trans y4))
    have z5 := (hb6c1 1).trans ((hb5c1 1).trans ((hb4c1 1).trans y5))
    have z6 := (hb6c1 2).trans ((hb5c1 2).trans ((hb4c1 2).trans y6))
    have z1 := (hb6c0 1).trans ((hb5c0 1).trans ((hb4c0 1).trans y1))
    have z2 := (hb6c0 2).trans ((hb5c0 2).trans ((hb4c0 2).trans y2))
    have z3 := (hb6c0 3).trans ((hb5c0 3).trans ((hb4c0 3).trans y3))
    have hz6 : w.heap.size + 1 < w6.heap.size := by have := hb4.size; have := hb5.size; have := hb6.size; omega
    have hz61 : w.heap.size < w6.heap.size := by omega
    rw [hXst] at H67 ⊢
    clear i6 h67 hB6 hB5 hB4 hB2 hB1 hb1 hb2 hb4 hb5 hb6 r4 r5 KB KC KQ HR5 hb4c0 hb4c1 hb5c0 hb5c1 hb6c0 hb6c1 hb4f0 hb4f1 hb5f0 hb5f1 hb6f0 hb6f1 y0 y1 y2 y3 y4 y5 y6
    (have oac := fun o i => below_at ((Below.refl w6.heap.size w6).alloc (Nat.le_refl _) o) (w.heap.size) i (by omega)); (have oaf := fun o i => below_fr ((Below.refl w6.heap.size w6).alloc (Nat.le_refl _) o) (w.heap.size) i (by omega))
    (have obc := fun o i => below_at ((Below.refl w6.heap.size w6).alloc (Nat.le_refl _) o) (w.heap.size + 1) i (by omega)); (have obf := fun o i => below_fr ((Below.refl w6.heap.size w6).alloc (Nat.le_refl _) o) (w.heap.size + 1) i (by omega))
    (go_wp2_with fail; (with_reducible refine (KA1.out _ (HB6.out.trans (H67.out.mono (by omega)))).mono ?_); rintro e w7 ⟨⟨A7, c7, rfl, r7⟩, hb7⟩; have hb7z := Below.size hb7; (try simp only [ZA, ZS, ZD, ZN] at hb7z))
    have h67 : Below w6.heap.size w6 w7 := H67.out.trans (hb7.mono (by simp))
    have x0 : w7.cell? ⟨w6.heap.size, 0, none⟩ = some (.int .i64 (X.nd : Int)) := (hb7.cell (p := ⟨w6.heap.size, 0, none⟩) (by simp)).trans (by simp)
    have x1 : w7.cell? ⟨w6.heap.size, 1, none⟩ = some (.int .i64 X.sr) := (hb7.cell (p := ⟨w6.heap.size, 1, none⟩) (by simp)).trans (by simp)
    have x2 : w7.cell? ⟨w6.heap.size, 2, none⟩ = some (.slice A6 X.nm a6) := (hb7.cell (p := ⟨w6.heap.size, 2, none⟩) (by simp)).trans (by simp)
    have x3 : w7.cell? ⟨w6.heap.size, 3, none⟩ = some (.slice B6 X.nd b6) := (hb7.cell (p := ⟨w6.heap.size, 3, none⟩) (by simp)).trans (by simp)
    have Z0 := (h67.cell (p := ⟨w.heap.size, 0, none⟩) hz61).trans z0
    have Z4 := (h67.cell (p := ⟨w.heap.size + 1, 0, none⟩) hz6).trans z4
    have Z5 := (h67.cell (p := ⟨w.heap.size + 1, 1, none⟩) hz6).trans z5
    have Z6 := (h67.cell (p := ⟨w.heap.size + 1, 2, none⟩) hz6).trans z6
    have hz7 : w6.heap.size < w7.heap.size := by have := hb7.size; simp at this; omega
    have HB7 := Lib.hid (HB6.out.trans (h67.mono (by omega)))
    have HP7 := Lib.hid (HP6.out.below h67)
    have R7 := Lib.hid r7
    have HI7 := Lib.hid (HI6.out _ h67)
    clear hb7 h67 r7 z0 z1 z2 z3 z4 z5 z6 HI6 HP6 HB6 H67 KA1
    (go_wp2_with fail; (with_reducible refine (KA2.out _ _ _ _ _ HB7.out HI7.out).mono ?_); rintro e w8 ⟨⟨g, c8, b9, rfl, hg, own⟩, hb8⟩; have hb8z := Below.size hb8; (try simp only [ZA, ZS, ZD, ZN] at hb8z))
    have V0 := (hb8.cell (p := ⟨w.heap.size, 0, none⟩) (by show w.heap.size < _; omega)).trans Z0
    have v0 := (hb8.cell (p := ⟨w6.heap.size, 0, none⟩) hz7).trans x0
    have HO8 := Lib.hid own
    have HB8 := Lib.hid hb8
    clear own hb8 Z0 Z4 Z5 Z6 x0 x1 x2 x3 KA2 HI7
    go_wp2
    go_loopw [100] (fun i wr => ∃ j : Nat, j ≤ c.nd ∧ i = .int .i64 (j : Int) ∧ OwR wr b9 (some ⟨g, 0, none⟩) c8 X.nd (can (Cu j)) ∧ Below w7.heap.size w7 wr) (fun i _ => c.nd - (intOf i).toNat)
    case atStart => exact ⟨0, Nat.zero_le _, rfl, HO8.out.congr (fun b _ => by show canR _ = canR _; rw [HC0.out b]), HB8.out⟩
    case round =>
      clear HO8 HB8
      obtain ⟨j, hj, rfl, own, hb⟩ := hrel
      have hz9 := hb.size
      have hgl := own.lt
      by_cases hlt : j < c.nd
      · obtain ⟨bp, op, rfl, hbp, pc⟩ := HP7.out.later hb hlt
        replace pc : wr.cell? ⟨bp, op + j, none⟩ = some (.int .i64 ((CR j : Nat) : Int)) := pc
        obtain ⟨bx, ox, s1, A1, n1, c1, B1, m1, d1, rfl, hbx, f0, f1, f2, r1⟩ := R7.out.at_ hlt
        have x0 := (hb.cell (lt_of_cell f0)).trans f0
        have x1 := (hb.cell (lt_of_cell f1)).trans f1
        have x2 := (hb.cell (lt_of_cell f2)).trans f2
        have qx := ((show RdS w7 _ _ (canR (Y j)) from r1).kp (Kp.of_below hb)).canQ (HYZ.out j)
        have hyN := HPL.out j hlt
        have hE := HCS.out j
        have hZy := HCZ.out j hj (CR j)
        obtain ⟨y, hy⟩ : ∃ y, y = CR j := ⟨_, rfl⟩
        rw [← hy] at pc hyN hE hZy
        obtain ⟨s3, A3, n3, c3, B3, m3, d3, o0, o1, o2, r0⟩ := own.at_ hyN
        have qd := (show RdS wr _ _ (canR (Cu j y)) from r0).canQ hZy
        have KS := Lib.hid (fun W (hb : Below wr.heap.size wr W) => subQ (qd.below hb) (qx.below hb) (by omega) (by omega))
        have hfz := own.frozen
        have HO := Lib.hid own
        have HB := Lib.hid hb
        have HE := Lib.hid hE
        have hji : (j : Int) < (c.nd : Int) := by omega
        have hj0 : (0 : Int) ≤ (j : Int) := by omega
        have hyi : (y : Int) < (X.nd : Int) := by omega
        have hy0 : (0 : Int) ≤ (y : Int) := by omega
        have e1 : decide ((y : Int) < 0) = false := by simp
        have e2 : decide ((y : Int) ≥ (X.nd : Int)) = false := by simp; omega
        have e3 : decide ((X.nd : Int) ≤ (y : Int)) = false := by simp; omega
        have ne1 : ¬ (bx = g) := by omega
        have ne2 : ¬ (g = bx) := by omega
        have hbxr : bx < wr.heap.size := by omega
        clear own hb hE hZy qd qx r0 r1 f0 f1 f2 hy
        go_wp2
        rw [ld_later 44 (.tmp 117)]
        go_region_held3 (fun W => W.cell? ⟨bx, ox + j * 3, none⟩ = some (.bool s1) ∧ W.cell? ⟨bx, ox + j * 3 + 1, none⟩ = some (.slice A1 n1 c1) ∧ W.cell? ⟨bx, ox + j * 3 + 2, none⟩ = some (.slice B1 m1 d1)) (go_keep)
          (first | ((go_at_call 19; (with_reducible refine (KS.out _ (by (skip); repeat' (first | (with_reducible exact Below.refl _ _) | (with_reducible assumption) | (with_reducible refine Below.alloc ?_ ?_ _) | (with_reducible refine Below.drew ?_) | (with_reducible refine below_drewN ?_ _) | (with_reducible refine Below.setCell ?_ ?_ _) | (with_reducible refine Below.trans ?_ (Below.mono (by with_reducible assumption) ?_)) | omega | (simp only [ZA, ZS, ZD, ZN]; omega) | go_size))).mono ?_); rintro e w9 ⟨⟨v9, rfl, own9⟩, hb10⟩; have hb10z := Below.size hb10; (try simp only [ZA, ZS, ZD] at hb10z); have hb10c0 := fun o => below_at hb10 (g) o (by first | omega | (simp only [ZA, ZS, ZD]; omega)); have hb10f0 := fun o => below_fr hb10 (g) o (by first | omega | (simp only [ZA, ZS, ZD]; omega)); have hb10l0 : g < (w9).heap.size := (by omega); have hb10c1 := fun o => below_at hb10 (bx) o (by first | omega | (simp only [ZA, ZS, ZD]; omega)); have hb10f1 := fun o => below_fr hb10 (bx) o (by first | omega | (simp only [ZA, ZS, ZD]; omega)); have hb10l1 : bx < (w9).heap.size := (by omega)); obtain ⟨s9, A9, n9, c9, B9, m9, d9, rfl⟩ := own9.form) | fail)
        all_goals
          have hb12 : Below wr.heap.size wr w9 := (by have z0 := Below.size hb10; (try simp only [ZA, ZS, ZD, ZN] at z0 ⊢; skip); repeat' (first | (with_reducible exact Below.refl _ _) | (with_reducible assumption) | (with_reducible refine Below.alloc ?_ ?_ _) | (with_reducible refine Below.drew ?_) | (with_reducible refine below_drewN ?_ _) | (with_reducible refine Below.setCell ?_ ?_ _) | (with_reducible refine Below.trans ?_ (Below.mono (by with_reducible assumption) ?_)) | omega | (simp only [ZA, ZS, ZD, ZN]; omega) | go_size))
          have hst := (HO.out.below hb12).set hyN (own9.rs (b0 := b9))
          rw [upd_can, ← HE.out] at hst
          have HS2 := Lib.hid hst.1
          have hbz9 := HB.out.trans ((hb12.mono (by omega)).trans (below_of_row hst.2 (fun q hq => by injection hq with hq; omega) (by have := hb12.size; omega)))
          have HBZ2 := Lib.hid hbz9
          clear hst hbz9 own9 hb10 hb12
          go_wp2
          go_roundw
          case rel => exact ⟨j + 1, by omega, by go_num, HS2.out, HBZ2.out⟩
          case measure => simp [intOf]; omega
      · have hjn : j = c.nd := by omega
        have HOW := Lib.hid (own.congr (U := can fun _ => 0) (fun b hb => by show canR _ = canR _; rw [hjn, HCE.out b hb]))
        have HBE := Lib.hid (HB7.out.trans (hb.mono HB7.out.size))
        clear own hb hjn HC0 HCS HCE HCZ HYZ HPL
        obtain ⟨wE, hwE⟩ : ∃ wE, wE = wr := ⟨_, rfl⟩
        rw [← hwE] at HOW HBE hgl ⊢
        clear hwE
        go_wp2
        go_loopw [128] (fun i wr => ∃ j : Nat, j ≤ X.nd ∧ i = .int .i64 (j : Int) ∧ Below wE.heap.size wE wr) (fun i _ => X.nd - (intOf i).toNat)
        case atStart => exact ⟨0, Nat.zero_le _, rfl, Below.refl _ _⟩
        case round =>
          obtain ⟨j, hj, rfl, hb⟩ := hrel
          by_cases hlt : j < X.nd
          · obtain ⟨s3, A3, n3, c3, B3, m3, d3, o0, o1, o2, r0⟩ := (HOW.out.below hb).at_ hlt
            have qd := (show RdS wr _ _ (canR 0) from r0).canQ (Sz.zero (L := 400) (by omega))
            have KSg := Lib.hid (fun W (hb : Below wr.heap.size wr W) => signQ (qd.below hb) (by omega) (by omega))
            rw [sgnQ_zero.2 rfl] at KSg
            have hji : (j : Int) < (X.nd : Int) := by omega
            have hj0 : (0 : Int) ≤ (j : Int) := by omega
            have HB := Lib.hid hb
            have hzr := hb.size
            clear qd r0 hb
            (go_wp2_with fail; (with_reducible refine (KSg.out _ (by (skip); repeat' (first | (with_reducible exact Below.refl _ _) | (with_reducible assumption) | (with_reducible refine Below.alloc ?_ ?_ _) | (with_reducible refine Below.drew ?_) | (with_reducible refine below_drewN ?_ _) | (with_reducible refine Below.setCell ?_ ?_ _) | (with_reducible refine Below.trans ?_ (Below.mono (by with_reducible assumption) ?_)) | omega | (simp only [ZA, ZS, ZD, ZN]; omega) | go_size))).mono ?_); rintro e w9 ⟨rfl, hb9⟩; have hb9z := Below.size hb9; (try simp only [ZA, ZS, ZD, ZN] at hb9z))
            have HBr := Lib.hid (HB.out.trans (Below.mono ((by have z0 := Below.size hb9; (try simp only [ZA, ZS, ZD, ZN] at z0 ⊢; skip); repeat' (first | (with_reducible exact Below.refl _ _) | (with_reducible assumption) | (with_reducible refine Below.alloc ?_ ?_ _) | (with_reducible refine Below.drew ?_) | (with_reducible refine below_drewN ?_ _) | (with_reducible refine Below.setCell ?_ ?_ _) | (with_reducible refine Below.trans ?_ (Below.mono (by with_reducible assumption) ?_)) | omega | (simp only [ZA, ZS, ZD, ZN]; omega) | go_size)) : Below wr.heap.size wr w9) hzr))
            clear hb9
            go_wp2
            go_roundw
            case rel => exact ⟨j + 1, by omega, by go_num, HBr.out⟩
            case measure => simp [intOf]; omega
          · go_wp2
            go_ret
            exact ⟨rfl, HBE.out.trans (hb.mono HBE.out.size)⟩
end Go.Proofs.YtlncafhgmbhocaaGreatDoor
