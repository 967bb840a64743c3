/- Contracts of functions and lemmas, used by the proofs of the given statements. No condition beyond those that each lemma names. -/
import Derived.Test.YtglpknhcneggeaaGreatDoorJLawTrV
namespace Go.Proofs.YtglpknhcneggeaaGreatDoor
open Go.RowKit
set_option linter.unusedSimpArgs false
set_option linter.unusedVariables false
set_option maxRecDepth 20000
attribute [local irreducible] nv wp win plainB validR valR canR mvE chkM codeC exK maxF dsum
/-! ## TransientFirst: the walk -/
theorem codeN_nn {c : Chn} {r : Rw} (h : ValP c r) (k : Nat) (hk : k ≤ 8) : c.codeN r (k : Int) = 0 := by
  unfold Chn.codeN; rw [if_neg (by have := h.code; omega), if_neg (by omega)]
theorem first_downs {c : Chn} {AM AD : Option Addr} {cm cd k : Nat} {v : Value} {r : Rw} (hP : ValP c r) (hS : Small c) (hok : okR r) (hk : k ≤ 8) {W : World} (hi : ChI W W.heap.size AM cm AD cd c) (hr : RdS W W.heap.size v r) :
    Calls Tryz.prog 15 #[cv c.st c.sr AM c.nm cm AD c.nd cd, v, .int .i64 (k : Int)] W fun e w' => (∃ A' c', e = .returned (.tuple #[.slice A' (k + 1) c', .nilIface]) ∧ RowA w' w'.heap.size A' (k + 1) (can (c.dn false (valR r)))) ∧ Below W.heap.size W w' := by
  have := Downs_any (n := (k : Int)) hi hS.chS hr hP.l1 hP.l2 (hS.dn hok hP.l1 hP.l2 (by omega) false)
  refine this.mono fun e w' h => ⟨?_, h.2⟩
  have h1 := h.1
  unfold RetVx at h1
  rw [if_pos (codeN_nn hP k hk), Int.toNat_natCast] at h1
  obtain ⟨A, ca, b, e1, hb, ho⟩ := h1
  exact ⟨A, ca, e1, ho.ra.up hb⟩
theorem first_first {c : Chn} {AM AD : Option Addr} {cm cd k : Nat} {v : Value} {r : Rw} (hP : ValP c r) (hS : Small c) (hok : okR r) (hk : k ≤ 8) {W : World} (hi : ChI W W.heap.size AM cm AD cd c) (hr : RdS W W.heap.size v r) :
    Calls Tryz.prog 16 #[cv c.st c.sr AM c.nm cm AD c.nd cd, v, .int .i64 (k : Int)] W fun e w' => (∃ A' c', e = .returned (.tuple #[.slice A' (k + 1) c', .nilIface]) ∧ RowA w' w'.heap.size A' (k + 1) (can (c.dn true (valR r)))) ∧ Below W.heap.size W w' := by
  have := First_any (n := (k : Int)) hi hS.chS hr hP.l1 hP.l2 (hS.dn hok hP.l1 hP.l2 (by omega) true)
  refine this.mono fun e w' h => ⟨?_, h.2⟩
  have h1 := h.1
  unfold RetVx at h1
  rw [if_pos (codeN_nn hP k hk), Int.toNat_natCast] at h1
  obtain ⟨A, ca, b, e1, hb, ho⟩ := h1
  exact ⟨A, ca, e1, ho.ra.up hb⟩
theorem ValP.dn_sz {c : Chn} {r : Rw} (hP : ValP c r) (hS : Small c) (hok : okR r) (ab : Bool) {k : Nat} (hk : k ≤ 8) : Sz 400 (c.dn ab (valR r) k) := by
  have hrs := Sz_valR hok (by omega) hP.l1 hP.l2
  have hf := hS.run hP.okc.1 hP.okc.2.1 hrs ab k
  exact (hf.dsum (by have := hS.nd hP.okc.1; omega)).more (by omega)
theorem first_sgn {x y : Rat} (h : x ≤ y) : sgnQ (x - y) ≤ 0 := by
  by_cases h0 : 0 ≤ x - y
  · have e : x - y = 0 := by grind
    rw [e]
    decide
  · rw [sgn_neg (Rat.not_le.1 h0)]
    omega
theorem first_sgn' {x y : Rat} (h : y ≤ x) : 0 ≤ sgnQ (x - y) := by
  by_cases h0 : x - y < 0
  · exact absurd h0 (by grind)
  · unfold sgnQ
    repeat' split
    all_goals first | omega | (exfalso; grind)
theorem first_one : Sz 400 ((1 : Nat) : Rat) := by
  refine ⟨?_, ?_⟩ <;> exact Nat.lt_of_lt_of_le (by rw [wp_one]; decide) (wp_le (show 1 ≤ 400 by omega))
set_option maxHeartbeats 16000000 in
theorem transientFirst_law {w : World} {AM AD : Option Addr} {cm cd p : Nat} {c : Chn} {v : Value} {r : Rw} (h : ChI w w.heap.size AM cm AD cd c) (hr : RdS w w.heap.size v r) (hp : p < 256) :
    Calls Tryz.prog 4 #[cv c.st c.sr AM c.nm cm AD c.nd cd, v, .int .u8 (p : Int)] w fun e w' => e = .returned (.bool true) ∧ Below w.heap.size w w' := by
  have KV := Lib.hid (fun W (hb : Below w.heap.size w W) => valid_law (h.below hb) ((hr.kp (Kp.of_below hb)).base hb.size))
  have HI := Lib.hid (fun W (hb : Below w.heap.size w W) => h.below hb)
  have HRR := Lib.hid (fun W (hb : Below w.heap.size w W) => (hr.kp (Kp.of_below hb)).base hb.size)
  have HOK := Lib.hid hr.ok
  have HSm := Lib.hid (fun (hf : FewP c) => hf.small h)
  obtain ⟨s0, A0, n0, c0, B0, m0, d0, rfl⟩ := hr.form
  have hbA : Below w.heap.size w ((w.alloc (.cells #[.int .i64 c.st, .int .i64 c.sr, .slice AM c.nm cm, .slice AD c.nd cd] 25)).alloc (.cells #[.bool s0, .slice A0 n0 c0, .slice B0 m0 d0] 28)) := ((Below.refl _ _).alloc (Nat.le_refl _) _).alloc (by simp) _
  have HBA := Lib.hid hbA
  clear h hr hbA
  go_enter Tryz.func4, Tryz.ntmps4
  (go_wp2_with fail; (with_reducible refine (KV.out _ HBA.out).mono ?_); rintro e w1 ⟨⟨bb, rfl, hbb⟩, hb1⟩; have hb1z := Below.size hb1; (try simp only [World.size_alloc, World.size_setCell, World.size_drew, size_drewN'] at hb1z); have hb1c0 := fun o => below_at hb1 (w.heap.size) o (by first | omega | (simp only [World.size_alloc, World.size_setCell, World.size_drew, size_drewN']; omega)); have hb1f0 := fun o => below_fr hb1 (w.heap.size) o (by first | omega | (simp only [World.size_alloc, World.size_setCell, World.size_drew, size_drewN']; omega)); have hb1c1 := fun o => below_at hb1 (w.heap.size + 1) o (by first | omega | (simp only [World.size_alloc, World.size_setCell, World.size_drew, size_drewN']; omega)); have hb1f1 := fun o => below_fr hb1 (w.heap.size + 1) o (by first | omega | (simp only [World.size_alloc, World.size_setCell, World.size_drew, size_drewN']; omega)))
  have hB1 : Below w.heap.size w w1 := HBA.out.trans (hb1.mono (by simp; omega))
  cases bb with
  | false =>
    clear hbb
    (go_wp2_with fail; (with_reducible refine (awake_any _).mono ?_); rintro e w2 ⟨rfl, hb2⟩; have hb2z := Below.size hb2; (try simp only [World.size_alloc, World.size_setCell, World.size_drew, size_drewN'] at hb2z))
    go_wp2
    go_ret
    exact ⟨rfl, hB1.trans (hb2.mono hB1.size)⟩
  | true =>
    have HP := Lib.hid (hbb rfl)
    have HS := Lib.hid (HSm.out (hbb rfl).few)
    clear hbb
    (go_wp2_with fail; (with_reducible refine (awake_any _).mono ?_); rintro e w2 ⟨rfl, hb2⟩; have hb2z := Below.size hb2; (try simp only [World.size_alloc, World.size_setCell, World.size_drew, size_drewN'] at hb2z); have hb2c0 := fun o => below_at hb2 (w.heap.size) o (by first | omega | (simp only [World.size_alloc, World.size_setCell, World.size_drew, size_drewN']; omega)); have hb2f0 := fun o => below_fr hb2 (w.heap.size) o (by first | omega | (simp only [World.size_alloc, World.size_setCell, World.size_drew, size_drewN']; omega)); have hb2c1 := fun o => below_at hb2 (w.heap.size + 1) o (by first | omega | (simp only [World.size_alloc, World.size_setCell, World.size_drew, size_drewN']; omega)); have hb2f1 := fun o => below_fr hb2 (w.heap.size + 1) o (by first | omega | (simp only [World.size_alloc, World.size_setCell, World.size_drew, size_drewN']; omega)))
    have hB2 : Below w.heap.size w w2 := hB1.trans (hb2.mono hB1.size)
    have hw2 : w.heap.size + 1 < w2.heap.size := by have := hb1.size; have := hb2.size; simp at *; omega
    have y0 : w2.cell? ⟨w.heap.size, 0, none⟩ = some (.int .i64 c.st) := by rw [hb2c0, hb1c0]; simp
    have y1 : w2.cell? ⟨w.heap.size, 1, none⟩ = some (.int .i64 c.sr) := by rw [hb2c0, hb1c0]; simp
    have y2 : w2.cell? ⟨w.heap.size, 2, none⟩ = some (.slice AM c.nm cm) := by rw [hb2c0, hb1c0]; simp
    have y3 : w2.cell? ⟨w.heap.size, 3, none⟩ = some (.slice AD c.nd cd) := by rw [hb2c0, hb1c0]; simp
    have y4 : w2.cell? ⟨w.heap.size + 1, 0, none⟩ = some (.bool s0) := by rw [hb2c1, hb1c1]; simp
    have y5 : w2.cell? ⟨w.heap.size + 1, 1, none⟩ = some (.slice A0 n0 c0) := by rw [hb2c1, hb1c1]; simp
    have y6 : w2.cell? ⟨w.heap.size + 1, 2, none⟩ = some (.slice B0 m0 d0) := by rw [hb2c1, hb1c1]; simp
    clear hb1c0 hb1c1 hb2c0 hb2c1 hb1f0 hb1f1 hb2f0 hb2f1
    obtain ⟨k, hk⟩ : ∃ k, k = p % 7 := ⟨_, rfl⟩
    have hk6 : k ≤ 6 := by omega
    have t1 : Int.tmod (p : Int) 7 = (k : Int) := by rw [Int.tmod_eq_emod_of_nonneg (by omega), hk]; rfl
    have t3 : (p : Int) % 7 = (k : Int) := by rw [hk]; rfl
    have t5 : IntKind.i64.wrap (k : Int) = (k : Int) := by rw [IntKind.wrap_i64]; omega
    have K4 : Hid (∀ W, Below w.heap.size w W → Calls Tryz.prog 15 #[cv c.st c.sr AM c.nm cm AD c.nd cd, rv s0 A0 n0 c0 B0 m0 d0, .int .i64 (k : Int)] W fun e w' => (∃ A' c', e = .returned (.tuple #[.slice A' (k + 1) c', .nilIface]) ∧ RowA w' w'.heap.size A' (k + 1) (can (c.dn false (valR r)))) ∧ Below W.heap.size W w') := fun W hb => first_downs HP.out HS.out HOK.out (by omega) (HI.out W hb) (HRR.out W hb)
    have K5 : Hid (∀ W, Below w.heap.size w W → Calls Tryz.prog 16 #[cv c.st c.sr AM c.nm cm AD c.nd cd, rv s0 A0 n0 c0 B0 m0 d0, .int .i64 (k : Int)] W fun e w' => (∃ A' c', e = .returned (.tuple #[.slice A' (k + 1) c', .nilIface]) ∧ RowA w' w'.heap.size A' (k + 1) (can (c.dn true (valR r)))) ∧ Below W.heap.size W w') := fun W hb => first_first HP.out HS.out HOK.out (by omega) (HI.out W hb) (HRR.out W hb)
    clear hk
    (go_wp2_with fail; (with_reducible refine (K4.out _ hB2).mono ?_); rintro e w4 ⟨⟨A4, k4, rfl, r4⟩, hb4⟩; have hb4z := Below.size hb4; (try simp only [World.size_alloc, World.size_setCell, World.size_drew, size_drewN'] at hb4z); have hb4c0 := fun o => below_at hb4 (w.heap.size) o (by first | omega | (simp only [World.size_alloc, World.size_setCell, World.size_drew, size_drewN']; omega)); have hb4f0 := fun o => below_fr hb4 (w.heap.size) o (by first | omega | (simp only [World.size_alloc, World.size_setCell, World.size_drew, size_drewN']; omega)); have hb4c1 := fun o => below_at hb4 (w.heap.size + 1) o (by first | omega | (simp only [World.size_alloc, World.size_setCell, World.size_drew, size_drewN']; omega)); have hb4f1 := fun o => below_fr hb4 (w.heap.size + 1) o (by first | omega | (simp only [World.size_alloc, World.size_setCell, World.size_drew, size_drewN']; omega)))
    have hB4 : Below w.heap.size w w4 := hB2.trans (hb4.mono hB2.size)
    have HR4 := Lib.hid r4
    clear r4
    (go_wp2_with fail; (with_reducible refine (K5.out _ hB4).mono ?_); rintro e w5 ⟨⟨A5, k5, rfl, r5⟩, hb5⟩; have hb5z := Below.size hb5; (try simp only [World.size_alloc, World.size_setCell, World.size_drew, size_drewN'] at hb5z))
    have hB5 : Below w.heap.size w w5 := hB4.trans (hb5.mono hB4.size)
    have HX := Lib.hid (HR4.out.below hb5)
    have HY := Lib.hid r5
    clear r5 HR4
    have hDS : Hid (∀ ab j, j ≤ k → Sz 400 (c.dn ab (valR r) j)) := fun ab j hj => HP.out.dn_sz HS.out HOK.out ab (by omega)
    have hG : Hid (∀ j, c.dn true (valR r) j ≤ c.dn true (valR r) (j + 1)) := fun j => HP.out.dn_grow j
    have hAb : Hid (∀ j, c.dn false (valR r) j ≤ c.dn true (valR r) j) := fun j => HP.out.dn_above j
    have hM : c.dn true (valR r) k ≤ 1 := HP.out.dn_most k
    obtain ⟨bx, ox, s1, A1, n1, c1, B1, m1, d1, rfl, hbx, f0, f1, f2, r1⟩ := HX.out.at_ (k := 0) (by omega)
    obtain ⟨bu, ou, s2, A2, n2, c2, B2, m2, d2, rfl, hbu, g0, g1, g2, r2⟩ := HY.out.at_ (k := 0) (by omega)
    obtain ⟨b9, o9, s3, A3, n3, c3, B3, m3, d3, e9, hbz, i0, i1, i2, r3⟩ := HY.out.at_ (k := k) (by omega)
    cases e9
    simp only [Nat.zero_mul, Nat.add_zero] at f0 f1 f2 g0 g1 g2
    have K0 : Hid (∀ W : World, Calls Tryz.prog 24 #[.int .i64 1] W fun e w' => RetQ W.heap.size ((1 : Nat) : Rat) e w' ∧ Below W.heap.size W w') := fun W => ofQ 1 W (by omega)
    have KC1 := Lib.hid (fun W (hb : Below w5.heap.size w5 W) => cmpS (L := 400) (z := 0) ((r1.kp (Kp.of_below hb)) : RdS W _ _ (canR (c.dn false (valR r) 0))) ((r2.kp (Kp.of_below hb)) : RdS W _ _ (canR (c.dn true (valR r) 0))) (hDS.out _ _ (by omega)) (hDS.out _ _ (by omega)) (by omega) (by omega) (by rw [Chn.dn_0, Rat.sub_self]; rfl))
    have hz9 : ∃ z : Int, sgnQ (c.dn true (valR r) k - ((1 : Nat) : Rat)) = z ∧ z ≤ 0 := ⟨_, rfl, first_sgn (by simpa using hM)⟩
    obtain ⟨z, hz1, hz2⟩ := hz9
    have KC2 := Lib.hid (fun W u (hb : Below w5.heap.size w5 W) (hu : RdS W 0 u (canR ((1 : Nat) : Rat))) => cmpS (L := 400) (z := z) ((r3.kp (Kp.of_below hb)) : RdS W _ _ (canR (c.dn true (valR r) k))) hu (hDS.out _ _ (by omega)) first_one (by omega) (by omega) hz1)
    have e7 : decide (z > 0) = false := by simpa using hz2
    have e8 : decide (0 < z) = false := e7
    have e0 : (((k + 1 : Nat) : Int) != ((k : Int) + 1)) = false := by simp
    have t7 : IntKind.i64.wrap ((k : Int) + 1) = (k : Int) + 1 := by rw [IntKind.wrap_i64]; omega
    have e1 : (0 : Int) < ((k + 1 : Nat) : Int) := by omega
    have e2 : (k : Int) < ((k + 1 : Nat) : Int) := by omega
    have e2i : (k : Int) < (k : Int) + 1 := by omega
    have e3 : (0 : Int) ≤ (k : Int) := by omega
    clear r1 r2 r3 hz1 hz2 hM t1 t3 t5
    clear hb1 hb2 hb4 hb5 y0 y1 y2 y3 y4 y5 y6
    have HB5 := Lib.hid hB5
    clear hB1 hB2 hB4 hB5
    go_wp2
    go_region_held3 (fun W => W.cell? ⟨bx, ox, none⟩ = some (.bool s1) ∧ W.cell? ⟨bx, ox + 1, none⟩ = some (.slice A1 n1 c1) ∧ W.cell? ⟨bx, ox + 2, none⟩ = some (.slice B1 m1 d1) ∧ W.cell? ⟨bu, ou, none⟩ = some (.bool s2) ∧ W.cell? ⟨bu, ou + 1, none⟩ = some (.slice A2 n2 c2) ∧ W.cell? ⟨bu, ou + 2, none⟩ = some (.slice B2 m2 d2) ∧ W.cell? ⟨bu, ou + k * 3, none⟩ = some (.bool s3) ∧ W.cell? ⟨bu, ou + k * 3 + 1, none⟩ = some (.slice A3 n3 c3) ∧ W.cell? ⟨bu, ou + k * 3 + 2, none⟩ = some (.slice B3 m3 d3)) (go_keep)
      (first | (go_at_call 23; (with_reducible refine (KC1.out _ (by (skip); repeat' (first | (with_reducible exact Below.refl _ _) | (with_reducible assumption) | (with_reducible refine Below.alloc ?_ ?_ _) | (with_reducible refine Below.drew ?_) | (with_reducible refine below_drewN ?_ _) | (with_reducible refine Below.setCell ?_ ?_ _) | (with_reducible refine Below.trans ?_ (Below.mono (by with_reducible assumption) ?_)) | omega | (simp only [World.size_alloc, World.size_setCell, World.size_drew, size_drewN']; omega) | go_size))).mono ?_); rintro e w6 ⟨rfl, hb6⟩; have hb6z := Below.size hb6; (try simp only [World.size_alloc, World.size_setCell, World.size_drew] at hb6z); have hb6c0 := fun o => below_at hb6 (bx) o (by first | omega | (simp only [World.size_alloc, World.size_setCell, World.size_drew]; omega)); have hb6f0 := fun o => below_fr hb6 (bx) o (by first | omega | (simp only [World.size_alloc, World.size_setCell, World.size_drew]; omega)); have hb6l0 : bx < (w6).heap.size := (by omega); have hb6c1 := fun o => below_at hb6 (bu) o (by first | omega | (simp only [World.size_alloc, World.size_setCell, World.size_drew]; omega)); have hb6f1 := fun o => below_fr hb6 (bu) o (by first | omega | (simp only [World.size_alloc, World.size_setCell, World.size_drew]; omega)); have hb6l1 : bu < (w6).heap.size := (by omega)) | ((go_at_call 24; (with_reducible refine (K0.out _).mono ?_); rintro e w9 ⟨⟨v9, rfl, own9⟩, hb9⟩; have hb9z := Below.size hb9; (try simp only [World.size_alloc, World.size_setCell, World.size_drew] at hb9z); have hb9c0 := fun o => below_at hb9 (bx) o (by first | omega | (simp only [World.size_alloc, World.size_setCell, World.size_drew]; omega)); have hb9f0 := fun o => below_fr hb9 (bx) o (by first | omega | (simp only [World.size_alloc, World.size_setCell, World.size_drew]; omega)); have hb9l0 : bx < (w9).heap.size := (by omega); have hb9c1 := fun o => below_at hb9 (bu) o (by first | omega | (simp only [World.size_alloc, World.size_setCell, World.size_drew]; omega)); have hb9f1 := fun o => below_fr hb9 (bu) o (by first | omega | (simp only [World.size_alloc, World.size_setCell, World.size_drew]; omega)); have hb9l1 : bu < (w9).heap.size := (by omega)); obtain ⟨s9, A9, n9, c9, B9, m9, d9, rfl⟩ := own9.form) | (go_at_call 23; (with_reducible refine (KC2.out _ _ (by have z0 := Below.size hb9; (try simp only [World.size_alloc, World.size_setCell, World.size_drew, size_drewN'] at z0 ⊢; skip); repeat' (first | (with_reducible exact Below.refl _ _) | (with_reducible assumption) | (with_reducible refine Below.alloc ?_ ?_ _) | (with_reducible refine Below.drew ?_) | (with_reducible refine below_drewN ?_ _) | (with_reducible refine Below.setCell ?_ ?_ _) | (with_reducible refine Below.trans ?_ (Below.mono (by with_reducible assumption) ?_)) | omega | (simp only [World.size_alloc, World.size_setCell, World.size_drew, size_drewN']; omega) | go_size)) ((own9.rs (b0 := 0)).kp (Kp.of_below (by (skip); repeat' (first | (with_reducible exact Below.refl _ _) | (with_reducible assumption) | (with_reducible refine Below.alloc ?_ ?_ _) | (with_reducible refine Below.drew ?_) | (with_reducible refine below_drewN ?_ _) | (with_reducible refine Below.setCell ?_ ?_ _) | (with_reducible refine Below.trans ?_ (Below.mono (by with_reducible assumption) ?_)) | omega | (simp only [World.size_alloc, World.size_setCell, World.size_drew, size_drewN']; omega) | go_size))))).mono ?_); rintro e w10 ⟨rfl, hb10⟩; have hb10z := Below.size hb10; (try simp only [World.size_alloc, World.size_setCell, World.size_drew] at hb10z); have hb10c0 := fun o => below_at hb10 (bx) o (by first | omega | (simp only [World.size_alloc, World.size_setCell, World.size_drew]; omega)); have hb10f0 := fun o => below_fr hb10 (bx) o (by first | omega | (simp only [World.size_alloc, World.size_setCell, World.size_drew]; omega)); have hb10l0 : bx < (w10).heap.size := (by omega); have hb10c1 := fun o => below_at hb10 (bu) o (by first | omega | (simp only [World.size_alloc, World.size_setCell, World.size_drew]; omega)); have hb10f1 := fun o => below_fr hb10 (bu) o (by first | omega | (simp only [World.size_alloc, World.size_setCell, World.size_drew]; omega)); have hb10l1 : bu < (w10).heap.size := (by omega)) | fail)
    all_goals
      have h10 : Below w5.heap.size w5 w10 := (by have z0 := Below.size hb6; have z1 := Below.size hb9; have z2 := Below.size hb10; (try simp only [World.size_alloc, World.size_setCell, World.size_drew, size_drewN'] at z0 z1 z2 ⊢; skip); repeat' (first | (with_reducible exact Below.refl _ _) | (with_reducible assumption) | (with_reducible refine Below.alloc ?_ ?_ _) | (with_reducible refine Below.drew ?_) | (with_reducible refine below_drewN ?_ _) | (with_reducible refine Below.setCell ?_ ?_ _) | (with_reducible refine Below.trans ?_ (Below.mono (by with_reducible assumption) ?_)) | omega | (simp only [World.size_alloc, World.size_setCell, World.size_drew, size_drewN']; omega) | go_size))
      have hz10 := h10.size
      have H10 := Lib.hid h10
      have HX9 := Lib.hid (HX.out.below h10)
      have HY9 := Lib.hid (HY.out.below h10)
      clear h10 hb6 hb9 hb10 own9
      go_wp2
      go_loopw [80] (fun i wr => ∃ j : Nat, j ≤ k + 1 ∧ i = .int .i64 (j : Int) ∧ Below w10.heap.size w10 wr) (fun i _ => k + 1 - (intOf i).toNat)
      case atStart => exact ⟨0, Nat.zero_le _, rfl, Below.refl _ _⟩
      case round =>
        obtain ⟨j, hj, rfl, hb9⟩ := hrel
        have HB9 := Lib.hid hb9
        have hz9 := hb9.size
        by_cases hlj : j < k + 1
        · have hAj := hAb.out j
          obtain ⟨bx, ox, s1, A1, n1, c1, B1, m1, d1, e1x, hbx, f0, f1, f2, r1⟩ := HX9.out.at_ hlj
          obtain ⟨bu, ou, s2, A2, n2, c2, B2, m2, d2, e2x, hbu, g0, g1, g2, r2⟩ := HY9.out.at_ hlj
          cases e1x
          cases e2x
          have x0 := (hb9.cell (lt_of_cell f0)).trans f0
          have x1 := (hb9.cell (lt_of_cell f1)).trans f1
          have x2 := (hb9.cell (lt_of_cell f2)).trans f2
          have x3 := (hb9.cell (lt_of_cell g0)).trans g0
          have x4 := (hb9.cell (lt_of_cell g1)).trans g1
          have x5 := (hb9.cell (lt_of_cell g2)).trans g2
          have hbx7 : bx < wr.heap.size := by omega
          have hbu7 : bu < wr.heap.size := by omega
          obtain ⟨z1, hz1, hz2⟩ : ∃ z1 : Int, sgnQ (c.dn true (valR r) j - c.dn false (valR r) j) = z1 ∧ 0 ≤ z1 := ⟨_, rfl, first_sgn' hAj⟩
          have KD1 := Lib.hid (fun W (hb : Below wr.heap.size wr W) => cmpS (L := 400) (z := z1) ((r2.kp (Kp.of_below (hb9.trans (hb.mono hz9)))) : RdS W _ _ (canR (c.dn true (valR r) j))) ((r1.kp (Kp.of_below (hb9.trans (hb.mono hz9)))) : RdS W _ _ (canR (c.dn false (valR r) j))) (hDS.out _ _ (by omega)) (hDS.out _ _ (by omega)) (by omega) (by omega) hz1)
          have e20 : decide (z1 < 0) = false := by simpa using hz2
          have hk0 : (0 : Int) ≤ (j : Int) := by omega
          have hki : (j : Int) < ((k + 1 : Nat) : Int) := by omega
          clear f0 f1 f2 g0 g1 g2 r1 hz1 hz2 hAj
          by_cases hj0 : j = 0
          · have e24 : decide ((j : Int) > 0) = false := by rw [hj0]; rfl
            have e25 : decide (0 < (j : Int)) = false := e24
            have e26 : decide (0 < j) = false := by rw [hj0]; rfl
            clear hj0 hb9 r2
            have q0 := fun y : Sub wr => y.cell x0
            have q1 := fun y : Sub wr => y.cell x1
            have q2 := fun y : Sub wr => y.cell x2
            have q3 := fun y : Sub wr => y.cell x3
            have q4 := fun y : Sub wr => y.cell x4
            have q5 := fun y : Sub wr => y.cell x5
            go_wp2
            ((refine wp_region_quiet_bel (by kernel_rfl) (by kernel_rfl) ?_); (repeat (go_big_quiet_step ((go_at_call 23; with_reducible exact Calls.quiet_bel (KD1.out _ (Sub.bel _)))))); (refine wpQuiet_nil ?_); rintro w11 ⟨⟨_, hb11⟩, rfl⟩; (try dsimp only))
            have H11 := Lib.hid hb11
            clear hb11
            go_wp2
            go_roundw
            case rel => exact ⟨j + 1, by omega, by go_num, HB9.out.trans (H11.out.mono hz9)⟩
            case measure => simp [intOf]; omega
          · obtain ⟨i, hi⟩ : ∃ i, j = i + 1 := ⟨j - 1, by omega⟩
            have hGi := hG.out i
            obtain ⟨b8, o8, s3, A3, n3, c3, B3, m3, d3, e3x, hbz, i0, i1, i2, r3⟩ := HY9.out.at_ (k := i) (by omega)
            cases e3x
            have x6 := (hb9.cell (lt_of_cell i0)).trans i0
            have x7 := (hb9.cell (lt_of_cell i1)).trans i1
            have x8 := (hb9.cell (lt_of_cell i2)).trans i2
            obtain ⟨z2, hz3, hz4⟩ : ∃ z2 : Int, sgnQ (c.dn true (valR r) j - c.dn true (valR r) i) = z2 ∧ 0 ≤ z2 := ⟨_, rfl, first_sgn' (by rw [hi]; exact hGi)⟩
            have KD2 := Lib.hid (fun W (hb : Below wr.heap.size wr W) => cmpS (L := 400) (z := z2) ((r2.kp (Kp.of_below (hb9.trans (hb.mono hz9)))) : RdS W _ _ (canR (c.dn true (valR r) j))) ((r3.kp (Kp.of_below (hb9.trans (hb.mono hz9)))) : RdS W _ _ (canR (c.dn true (valR r) i))) (hDS.out _ _ (by omega)) (hDS.out _ _ (by omega)) (by omega) (by omega) hz3)
            have e22 : decide (z2 < 0) = false := by simpa using hz4
            have e23 : decide ((j : Int) > 0) = true := decide_eq_true (by omega)
            have e24 : decide (0 < (j : Int)) = true := e23
            have e26 : decide (0 < j) = true := decide_eq_true (by omega)
            have t8 : IntKind.i64.wrap ((j : Int) - 1) = (i : Int) := by rw [IntKind.wrap_i64]; omega
            have hi0 : (0 : Int) ≤ (i : Int) := by omega
            have hi1 : (i : Int) < ((k + 1 : Nat) : Int) := by omega
            have hi1i : (i : Int) < (k : Int) + 1 := by omega
            clear hi hb9 r2 r3 i0 i1 i2 hGi hz3 hz4
            go_wp2
            go_region_held3 (fun W => W.cell? ⟨bx, ox + j * 3, none⟩ = some (.bool s1) ∧ W.cell? ⟨bx, ox + j * 3 + 1, none⟩ = some (.slice A1 n1 c1) ∧ W.cell? ⟨bx, ox + j * 3 + 2, none⟩ = some (.slice B1 m1 d1) ∧ W.cell? ⟨bu, ou + j * 3, none⟩ = some (.bool s2) ∧ W.cell? ⟨bu, ou + j * 3 + 1, none⟩ = some (.slice A2 n2 c2) ∧ W.cell? ⟨bu, ou + j * 3 + 2, none⟩ = some (.slice B2 m2 d2) ∧ W.cell? ⟨bu, ou + i * 3, none⟩ = some (.bool s3) ∧ W.cell? ⟨bu, ou + i * 3 + 1, none⟩ = some (.slice A3 n3 c3) ∧ W.cell? ⟨bu, ou + i * 3 + 2, none⟩ = some (.slice B3 m3 d3)) (go_keep)
              (first | (go_at_call 23; (with_reducible refine (KD1.out _ (by (skip); repeat' (first | (with_reducible exact Below.refl _ _) | (with_reducible assumption) | (with_reducible refine Below.alloc ?_ ?_ _) | (with_reducible refine Below.drew ?_) | (with_reducible refine below_drewN ?_ _) | (with_reducible refine Below.setCell ?_ ?_ _) | (with_reducible refine Below.trans ?_ (Below.mono (by with_reducible assumption) ?_)) | omega | (simp only [World.size_alloc, World.size_setCell, World.size_drew, size_drewN']; omega) | go_size))).mono ?_); rintro e w11 ⟨rfl, hb11⟩; have hb11z := Below.size hb11; (try simp only [World.size_alloc, World.size_setCell, World.size_drew] at hb11z); have hb11c0 := fun o => below_at hb11 (bx) o (by first | omega | (simp only [World.size_alloc, World.size_setCell, World.size_drew]; omega)); have hb11f0 := fun o => below_fr hb11 (bx) o (by first | omega | (simp only [World.size_alloc, World.size_setCell, World.size_drew]; omega)); have hb11l0 : bx < (w11).heap.size := (by omega); have hb11c1 := fun o => below_at hb11 (bu) o (by first | omega | (simp only [World.size_alloc, World.size_setCell, World.size_drew]; omega)); have hb11f1 := fun o => below_fr hb11 (bu) o (by first | omega | (simp only [World.size_alloc, World.size_setCell, World.size_drew]; omega)); have hb11l1 : bu < (w11).heap.size := (by omega)) | (go_at_call 23; (with_reducible refine (KD2.out _ (by have z0 := Below.size hb11; (try simp only [World.size_alloc, World.size_setCell, World.size_drew, size_drewN'] at z0 ⊢; skip); repeat' (first | (with_reducible exact Below.refl _ _) | (with_reducible assumption) | (with_reducible refine Below.alloc ?_ ?_ _) | (with_reducible refine Below.drew ?_) | (with_reducible refine below_drewN ?_ _) | (with_reducible refine Below.setCell ?_ ?_ _) | (with_reducible refine Below.trans ?_ (Below.mono (by with_reducible assumption) ?_)) | omega | (simp only [World.size_alloc, World.size_setCell, World.size_drew, size_drewN']; omega) | go_size))).mono ?_); rintro e w12 ⟨rfl, hb12⟩; have hb12z := Below.size hb12; (try simp only [World.size_alloc, World.size_setCell, World.size_drew] at hb12z); have hb12c0 := fun o => below_at hb12 (bx) o (by first | omega | (simp only [World.size_alloc, World.size_setCell, World.size_drew]; omega)); have hb12f0 := fun o => below_fr hb12 (bx) o (by first | omega | (simp only [World.size_alloc, World.size_setCell, World.size_drew]; omega)); have hb12l0 : bx < (w12).heap.size := (by omega); have hb12c1 := fun o => below_at hb12 (bu) o (by first | omega | (simp only [World.size_alloc, World.size_setCell, World.size_drew]; omega)); have hb12f1 := fun o => below_fr hb12 (bu) o (by first | omega | (simp only [World.size_alloc, World.size_setCell, World.size_drew]; omega)); have hb12l1 : bu < (w12).heap.size := (by omega)) | fail)
            all_goals
              have h12 : Below wr.heap.size wr w12 := (by have z0 := Below.size hb11; have z1 := Below.size hb12; (try simp only [World.size_alloc, World.size_setCell, World.size_drew, size_drewN'] at z0 z1 ⊢; skip); repeat' (first | (with_reducible exact Below.refl _ _) | (with_reducible assumption) | (with_reducible refine Below.alloc ?_ ?_ _) | (with_reducible refine Below.drew ?_) | (with_reducible refine below_drewN ?_ _) | (with_reducible refine Below.setCell ?_ ?_ _) | (with_reducible refine Below.trans ?_ (Below.mono (by with_reducible assumption) ?_)) | omega | (simp only [World.size_alloc, World.size_setCell, World.size_drew, size_drewN']; omega) | go_size))
              have H12 := Lib.hid h12
              clear h12 hb11 hb12
              go_wp2
              go_roundw
              case rel => exact ⟨j + 1, by omega, by go_num, HB9.out.trans (H12.out.mono hz9)⟩
              case measure => simp [intOf]; omega
        · obtain rfl : j = k + 1 := by omega
          have e9 : decide (((k + 1 : Nat) : Int) < ((k + 1 : Nat) : Int)) = false := by simp
          clear hb9
          go_wp2
          go_ret
          exact ⟨rfl, HB5.out.trans ((H10.out.trans (HB9.out.mono hz10)).mono HB5.out.size)⟩
end Go.Proofs.YtglpknhcneggeaaGreatDoor
