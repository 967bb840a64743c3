/- Contracts of functions and lemmas, used by the proofs of the given statements. No condition beyond those that each lemma names. -/
import Derived.Test.YtlncafhgmbhocaaGreatDoorTrW1
namespace Go.Proofs.YtlncafhgmbhocaaGreatDoor
open Go.RowKit
set_option linter.unusedSimpArgs false
set_option linter.unusedVariables false
set_option maxRecDepth 20000
attribute [local irreducible] nv wp win plainB validR valR canR mvE chkM codeC exK maxF
/-! ## package transient: Start, check -/
/-- the first distribution -/
def Chn.v0 (c : Chn) : Nat → Rat := fun s => if (s : Int) = c.sr then 1 else 0
set_option maxHeartbeats 4000000 in
theorem start_any {w : World} {AM AD : Option Addr} {cm cd L : Nat} {c : Chn} (h : ChI w w.heap.size AM cm AD cd c) (hs : ChS c L) :
    Calls Tryz.prog 102 #[cv c.st c.sr AM c.nm cm AD c.nd cd] w fun e w' => RetVe w.heap.size c.nd c.v0 c.code e w' ∧ Below w.heap.size w w' := by
  have K1 := Lib.hid (fun W (hb : Below w.heap.size w W) => chCheck (h.below hb) hs.nm hs.short)
  have hok := Chn.ok_iff (c := c)
  obtain ⟨cc, hcc⟩ : ∃ cc, cc = c.code := ⟨_, rfl⟩
  obtain ⟨X, hX⟩ : ∃ X, X = c.v0 := ⟨_, rfl⟩
  rw [← hcc] at K1 hok ⊢
  rw [← hX]
  by_cases h0 : cc = 0
  · have ok := hok.1 h0
    rw [h0, errM_0] at K1
    have hn1 := ok.lo
    have hn2 := ok.hi
    have hs0 := ok.s0
    have hs1 := ok.s1
    have hst := ok.st
    obtain ⟨u, hu⟩ : ∃ u : Nat, c.sr = (u : Int) := ⟨c.sr.toNat, by omega⟩
    have HX : Hid (∀ s : Nat, X s = if s = u then 1 else 0) := by
      show ∀ s : Nat, _ = _
      intro s
      rw [hX]
      unfold Chn.v0
      rw [hu]
      by_cases e : s = u
      · rw [if_pos e, if_pos (by rw [e])]
      · rw [if_neg e, if_neg (by omega)]
    have H0 := Lib.hid h0
    clear hok ok h0 h hs hcc hX
    obtain ⟨st, sr, nm, F, T, R, nd, D⟩ := c
    simp only at *
    subst hst hu
    have hud : u < nd := by omega
    clear hs0 hs1
    go_enter Tryz.func102, Tryz.ntmps102
    (go_wp2_with fail; (with_reducible refine (K1.out _ (by (skip); repeat' (first | (with_reducible exact Below.refl _ _) | (with_reducible assumption) | (with_reducible refine Below.alloc ?_ ?_ _) | (with_reducible refine Below.drew ?_) | (with_reducible refine below_drewN ?_ _) | (with_reducible refine Below.setCell ?_ ?_ _) | (with_reducible refine Below.trans ?_ (Below.mono (by with_reducible assumption) ?_)) | omega | (simp only [ZA, ZS, ZD, ZN]; omega) | go_size))).mono ?_); rintro e w1 ⟨rfl, hb1⟩; have hb1z := Below.size hb1; (try simp only [ZA, ZS, ZD, ZN] at hb1z); have hb1c0 := fun o => below_at hb1 (w.heap.size) o (by first | omega | (simp only [ZA, ZS, ZD, ZN]; omega)); have hb1f0 := fun o => below_fr hb1 (w.heap.size) o (by first | omega | (simp only [ZA, ZS, ZD, ZN]; omega)))
    go_wp2_with (at_make; refine wpList_makeR rfl (.tmp 12) (.tmp 12) rfl 0 nd (nd : Int) (nd : Int) (by simp [Act.eval]) (by simp [Act.eval]) rfl rfl (by omega) (Nat.zero_le _) ?_; intro w2 own2 hb2; have y0 : w2.cell? ⟨w.heap.size, 1, none⟩ = some (.int .i64 (u : Int)) := (hb2.cell (p := ⟨w.heap.size, 1, none⟩) (by simp at *; omega)).trans (by rw [hb1c0]; simp))
    have hlt := own2.lt
    have hfz := own2.frozen
    have hz2 := hb2.size
    obtain ⟨s3, A3, n3, c3', B3, m3, d3, g0, g1, g2, r3⟩ := own2.at_ hud
    have hu0 : (u : Int) < (nd : Int) := by omega
    have HO2 := Lib.hid own2
    clear own2 r3
    have hw1 : w.heap.size < w1.heap.size := by have := hb1.size; simp at this; omega
    have ne1 : ¬ (w.heap.size = w1.heap.size) := by omega
    have ne2 : ¬ (w1.heap.size = w.heap.size) := by omega
    go_region_held3 (fun W => W.cell? ⟨w.heap.size, 1, none⟩ = some (.int .i64 (u : Int))) (go_keep)
      (first | ((go_at_call 136; (with_reducible refine (ofOne _).mono ?_); rintro e w3 ⟨⟨v3, rfl, own3⟩, hb3⟩; have hb3z := Below.size hb3; (try simp only [ZA, ZS, ZD] at hb3z); have hb3c0 := fun o => below_at hb3 (w.heap.size) o (by first | omega | (simp only [ZA, ZS, ZD]; omega)); have hb3f0 := fun o => below_fr hb3 (w.heap.size) o (by first | omega | (simp only [ZA, ZS, ZD]; omega)); have hb3l0 : w.heap.size < (w3).heap.size := (by omega); have hb3c1 := fun o => below_at hb3 (w1.heap.size) o (by first | omega | (simp only [ZA, ZS, ZD]; omega)); have hb3f1 := fun o => below_fr hb3 (w1.heap.size) o (by first | omega | (simp only [ZA, ZS, ZD]; omega)); have hb3l1 : w1.heap.size < (w3).heap.size := (by omega)); obtain ⟨s4, A4, n4, c4, B4, m4, d4, rfl⟩ := own3.form) | fail)
    all_goals
      have hb9 : Below w2.heap.size w2 w3 := (by have z0 := Below.size hb3; (try simp only [ZA, ZS, ZD, ZN] at z0 ⊢; skip); repeat' (first | (with_reducible exact Below.refl _ _) | (with_reducible assumption) | (with_reducible refine Below.alloc ?_ ?_ _) | (with_reducible refine Below.drew ?_) | (with_reducible refine below_drewN ?_ _) | (with_reducible refine Below.setCell ?_ ?_ _) | (with_reducible refine Below.trans ?_ (Below.mono (by with_reducible assumption) ?_)) | omega | (simp only [ZA, ZS, ZD, ZN]; omega) | go_size))
      have o4 := (HO2.out.below hb9).set hud (own3.rs (b0 := 0))
      have hb12 : Below w.heap.size w w1 := (by have z0 := Below.size hb1; (try simp only [ZA, ZS, ZD, ZN] at z0 ⊢; skip); repeat' (first | (with_reducible exact Below.refl _ _) | (with_reducible assumption) | (with_reducible refine Below.alloc ?_ ?_ _) | (with_reducible refine Below.drew ?_) | (with_reducible refine below_drewN ?_ _) | (with_reducible refine Below.setCell ?_ ?_ _) | (with_reducible refine Below.trans ?_ (Below.mono (by with_reducible assumption) ?_)) | omega | (simp only [ZA, ZS, ZD, ZN]; omega) | go_size))
      have hb8 : Below w.heap.size w w3 := (hb12.trans (hb2.mono (by omega))).trans (hb9.mono (by omega))
      have hb7 := hb8.trans (below_of_row o4.2 (fun q hq => by have h2 : w1.heap.size = q := (by injection hq); omega) hb8.size)
      have HO := Lib.hid o4
      have HB7 := Lib.hid hb7
      clear o4 hb7
      go_wp2
      go_ret2
      refine ⟨retVe_0 H0.out ⟨HO.out.1.congr fun s hs => ?_, fun q hq => by have h2 : w1.heap.size = q := (by injection hq); omega⟩, HB7.out⟩
      unfold upd can
      rw [HX.out s]
      by_cases e : s = u
      · simp [e]
      · simp [e]
  · have hE := errM_n h0
    rw [hE] at K1
    have H0 := Lib.hid h0
    have HE := Lib.hid hE
    clear hok h0 h hs hcc hE hX
    obtain ⟨st, sr, nm, F, T, R, nd, D⟩ := c
    simp only at *
    go_enter Tryz.func102, Tryz.ntmps102
    (go_wp2_with fail; (with_reducible refine (K1.out _ (by (skip); repeat' (first | (with_reducible exact Below.refl _ _) | (with_reducible assumption) | (with_reducible refine Below.alloc ?_ ?_ _) | (with_reducible refine Below.drew ?_) | (with_reducible refine below_drewN ?_ _) | (with_reducible refine Below.setCell ?_ ?_ _) | (with_reducible refine Below.trans ?_ (Below.mono (by with_reducible assumption) ?_)) | omega | (simp only [ZA, ZS, ZD, ZN]; omega) | go_size))).mono ?_); rintro e w1 ⟨rfl, hb1⟩; have hb1z := Below.size hb1; (try simp only [ZA, ZS, ZD, ZN] at hb1z); have hb1c0 := fun o => below_at hb1 (w.heap.size) o (by first | omega | (simp only [ZA, ZS, ZD, ZN]; omega)); have hb1f0 := fun o => below_fr hb1 (w.heap.size) o (by first | omega | (simp only [ZA, ZS, ZD, ZN]; omega)))
    go_wp2
    go_ret2
    exact ⟨retVe_n H0.out HE.out, (by have z0 := Below.size hb1; (try simp only [ZA, ZS, ZD, ZN] at z0 ⊢; skip); repeat' (first | (with_reducible exact Below.refl _ _) | (with_reducible assumption) | (with_reducible refine Below.alloc ?_ ?_ _) | (with_reducible refine Below.drew ?_) | (with_reducible refine below_drewN ?_ _) | (with_reducible refine Below.setCell ?_ ?_ _) | (with_reducible refine Below.trans ?_ (Below.mono (by with_reducible assumption) ?_)) | omega | (simp only [ZA, ZS, ZD, ZN]; omega) | go_size))⟩
/-- the errors of a chain and a rate -/
def Chn.codeR (c : Chn) (r : Rw) : Int := if c.code ≠ 0 then c.code else if ¬ 0 < valR r ∨ valR r < c.fast then 3 else 0
set_option maxHeartbeats 4000000 in
theorem check_tr {w : World} {AM AD : Option Addr} {cm cd L : Nat} {c : Chn} {v : Value} {r : Rw} (h : ChI w w.heap.size AM cm AD cd c) (hs : ChS c L) (hr : RdS w w.heap.size v r) (hr1 : r.2.1.length ≤ 4) (hr2 : r.2.2.length ≤ 4) :
    Calls Tryz.prog 101 #[cv c.st c.sr AM c.nm cm AD c.nd cd, v] w fun e w' => e = .returned (errM (c.codeR r)) ∧ Below w.heap.size w w' := by
  have K1 := Lib.hid (fun W (hb : Below w.heap.size w W) => fastest_any (h.below hb) hs)
  have hok := Chn.ok_iff (c := c)
  have hsz := hs.siz
  have hcR : c.codeR r = if c.code ≠ 0 then c.code else if ¬ 0 < valR r ∨ valR r < c.fast then 3 else 0 := rfl
  obtain ⟨cr, hcr⟩ : ∃ cr, cr = c.codeR r := ⟨_, rfl⟩
  obtain ⟨cc, hcc⟩ : ∃ cc, cc = c.code := ⟨_, rfl⟩
  obtain ⟨q, hq⟩ : ∃ q, q = c.fast := ⟨_, rfl⟩
  rw [← hcr] at hcR ⊢
  rw [← hcc, ← hq] at K1 hcR
  rw [← hcc] at hok
  obtain ⟨s0, A0, n0, c0, B0, m0, d0, rfl⟩ := hr.form
  by_cases h0 : cc = 0
  · have ok := hok.1 h0
    rw [if_neg (by omega)] at hcR
    have hL1 := (hsz ok).L1
    have hL2 := (hsz ok).L2
    have hnd := ok.lo
    have hqs : Sz L q := by rw [hq]; exact maxF_sz fun j _ => (hsz ok).ex j c.nm (Nat.le_refl _)
    have HV := Lib.hid (fun W (hb : Below w.heap.size w W) => validS (hr.kp (Kp.of_below hb)) (by omega) (by omega))
    have HS := Lib.hid (fun W z (hb : Below w.heap.size w W) (hz : sgnQ (valR r) = z) => signS (hr.kp (Kp.of_below hb)) (by omega) (by omega) hz)
    have HC := Lib.hid (fun W u z (hb : Below w.heap.size w W) (hu : RdS W 0 u (canR q)) (hz : sgnQ (valR r - q) = z) => (by
      have := cmpQ ((hr.kp (Kp.of_below hb)).rdq (L := L + 4) (by omega) (by omega)) ((hu.canQ hqs).more (show L ≤ L + 4 by omega)) (by omega) (by omega)
      rw [hz] at this
      exact this : Calls Tryz.prog 87 #[rv s0 A0 n0 c0 B0 m0 d0, u] W fun e w' => e = .returned (.int .i64 z) ∧ Below W.heap.size W w'))
    have H0 := Lib.hid h0
    have HCR := Lib.hid hcR
    clear hok hsz ok h0 h hs hcc hq hqs hr hcr hcR
    obtain ⟨st, sr, nm, F, T, R, nd, D⟩ := c
    simp only at *
    by_cases hp : 0 < valR r
    · have hv : validR r = true := by
        cases hv : validR r
        · exact absurd hp (valR_no hv)
        · rfl
      rw [hv] at HV
      have HS' := Lib.hid (fun W hb => HS.out W 1 hb (sgn_pos hp))
      by_cases hlt : valR r < q
      · have HCR2 := Lib.hid (HCR.out.trans (if_pos (.inr hlt)))
        have HC' := Lib.hid (fun W u hb hu => HC.out W u (-1) hb hu (sgn_neg (by grind)))
        clear hp hv hlt HS HC
        go_enter Tryz.func101, Tryz.ntmps101
        (go_wp2_with fail; (with_reducible refine (K1.out _ (by (skip); repeat' (first | (with_reducible exact Below.refl _ _) | (with_reducible assumption) | (with_reducible refine Below.alloc ?_ ?_ _) | (with_reducible refine Below.drew ?_) | (with_reducible refine below_drewN ?_ _) | (with_reducible refine Below.setCell ?_ ?_ _) | (with_reducible refine Below.trans ?_ (Below.mono (by with_reducible assumption) ?_)) | omega | (simp only [ZA, ZS, ZD, ZN]; omega) | go_size))).mono ?_); rintro e w1 ⟨hR, hb1⟩; have hb1z := Below.size hb1; (try simp only [ZA, ZS, ZD, ZN] at hb1z); have hb1c0 := fun o => below_at hb1 (w.heap.size) o (by first | omega | (simp only [ZA, ZS, ZD, ZN]; omega)); have hb1f0 := fun o => below_fr hb1 (w.heap.size) o (by first | omega | (simp only [ZA, ZS, ZD, ZN]; omega)); have hb1c1 := fun o => below_at hb1 (w.heap.size + 1) o (by first | omega | (simp only [ZA, ZS, ZD, ZN]; omega)); have hb1f1 := fun o => below_fr hb1 (w.heap.size + 1) o (by first | omega | (simp only [ZA, ZS, ZD, ZN]; omega)))
        unfold RetQe at hR
        rw [if_pos H0.out] at hR
        obtain ⟨v1, rfl, hv1⟩ := hR
        obtain ⟨s1, A1, n1, c1, B1, m1, d1, rfl⟩ := hv1.form
        have hw1 : w.heap.size + 1 < w1.heap.size := by have := hb1.size; simp at this; omega
        (have olc := fun o i => below_at ((Below.refl w1.heap.size w1).alloc (Nat.le_refl _) o) (w.heap.size) i (by omega)); (have olf := fun o i => below_fr ((Below.refl w1.heap.size w1).alloc (Nat.le_refl _) o) (w.heap.size) i (by omega))
        (have omc := fun o i => below_at ((Below.refl w1.heap.size w1).alloc (Nat.le_refl _) o) (w.heap.size + 1) i (by omega)); (have omf := fun o i => below_fr ((Below.refl w1.heap.size w1).alloc (Nat.le_refl _) o) (w.heap.size + 1) i (by omega))
        (go_wp2_with fail; (with_reducible refine (HV.out _ (by have z0 := Below.size hb1; (try simp only [ZA, ZS, ZD, ZN] at z0 ⊢; skip); repeat' (first | (with_reducible exact Below.refl _ _) | (with_reducible assumption) | (with_reducible refine Below.alloc ?_ ?_ _) | (with_reducible refine Below.drew ?_) | (with_reducible refine below_drewN ?_ _) | (with_reducible refine Below.setCell ?_ ?_ _) | (with_reducible refine Below.trans ?_ (Below.mono (by with_reducible assumption) ?_)) | omega | (simp only [ZA, ZS, ZD, ZN]; omega) | go_size))).mono ?_); rintro e w2 ⟨rfl, hb2⟩; have hb2z := Below.size hb2; (try simp only [ZA, ZS, ZD, ZN] at hb2z); have hb2c0 := fun o => below_at hb2 (w.heap.size) o (by first | omega | (simp only [ZA, ZS, ZD, ZN]; omega)); have hb2f0 := fun o => below_fr hb2 (w.heap.size) o (by first | omega | (simp only [ZA, ZS, ZD, ZN]; omega)); have hb2c1 := fun o => below_at hb2 (w.heap.size + 1) o (by first | omega | (simp only [ZA, ZS, ZD, ZN]; omega)); have hb2f1 := fun o => below_fr hb2 (w.heap.size + 1) o (by first | omega | (simp only [ZA, ZS, ZD, ZN]; omega)); have hb2c2 := fun o => below_at hb2 (w1.heap.size) o (by first | omega | (simp only [ZA, ZS, ZD, ZN]; omega)); have hb2f2 := fun o => below_fr hb2 (w1.heap.size) o (by first | omega | (simp only [ZA, ZS, ZD, ZN]; omega)))
        (go_wp2_with fail; (with_reducible refine (HS'.out _ (by have z0 := Below.size hb1; have z1 := Below.size hb2; (try simp only [ZA, ZS, ZD, ZN] at z0 z1 ⊢; skip); repeat' (first | (with_reducible exact Below.refl _ _) | (with_reducible assumption) | (with_reducible refine Below.alloc ?_ ?_ _) | (with_reducible refine Below.drew ?_) | (with_reducible refine below_drewN ?_ _) | (with_reducible refine Below.setCell ?_ ?_ _) | (with_reducible refine Below.trans ?_ (Below.mono (by with_reducible assumption) ?_)) | omega | (simp only [ZA, ZS, ZD, ZN]; omega) | go_size))).mono ?_); rintro e w3 ⟨rfl, hb3⟩; have hb3z := Below.size hb3; (try simp only [ZA, ZS, ZD, ZN] at hb3z); have hb3c0 := fun o => below_at hb3 (w.heap.size) o (by first | omega | (simp only [ZA, ZS, ZD, ZN]; omega)); have hb3f0 := fun o => below_fr hb3 (w.heap.size) o (by first | omega | (simp only [ZA, ZS, ZD, ZN]; omega)); have hb3c1 := fun o => below_at hb3 (w.heap.size + 1) o (by first | omega | (simp only [ZA, ZS, ZD, ZN]; omega)); have hb3f1 := fun o => below_fr hb3 (w.heap.size + 1) o (by first | omega | (simp only [ZA, ZS, ZD, ZN]; omega)); have hb3c2 := fun o => below_at hb3 (w1.heap.size) o (by first | omega | (simp only [ZA, ZS, ZD, ZN]; omega)); have hb3f2 := fun o => below_fr hb3 (w1.heap.size) o (by first | omega | (simp only [ZA, ZS, ZD, ZN]; omega)))
        (go_wp2_with fail; (with_reducible refine (HC'.out _ _ (by have z0 := Below.size hb1; have z1 := Below.size hb2; have z2 := Below.size hb3; (try simp only [ZA, ZS, ZD, ZN] at z0 z1 z2 ⊢; skip); repeat' (first | (with_reducible exact Below.refl _ _) | (with_reducible assumption) | (with_reducible refine Below.alloc ?_ ?_ _) | (with_reducible refine Below.drew ?_) | (with_reducible refine below_drewN ?_ _) | (with_reducible refine Below.setCell ?_ ?_ _) | (with_reducible refine Below.trans ?_ (Below.mono (by with_reducible assumption) ?_)) | omega | (simp only [ZA, ZS, ZD, ZN]; omega) | go_size)) (hv1.kp ((((Kp.refl 0 w1).alloc _).trans (Kp.of_below hb2)).trans (Kp.of_below hb3)))).mono ?_); rintro e w4 ⟨rfl, hb4⟩; have hb4z := Below.size hb4; (try simp only [ZA, ZS, ZD, ZN] at hb4z); have hb4c0 := fun o => below_at hb4 (w.heap.size) o (by first | omega | (simp only [ZA, ZS, ZD, ZN]; omega)); have hb4f0 := fun o => below_fr hb4 (w.heap.size) o (by first | omega | (simp only [ZA, ZS, ZD, ZN]; omega)); have hb4c1 := fun o => below_at hb4 (w.heap.size + 1) o (by first | omega | (simp only [ZA, ZS, ZD, ZN]; omega)); have hb4f1 := fun o => below_fr hb4 (w.heap.size + 1) o (by first | omega | (simp only [ZA, ZS, ZD, ZN]; omega)))
        go_wp2
        go_ret
        exact ⟨by rw [HCR2.out]; rfl, (by have z0 := Below.size hb1; have z1 := Below.size hb2; have z2 := Below.size hb3; have z3 := Below.size hb4; (try simp only [ZA, ZS, ZD, ZN] at z0 z1 z2 z3 ⊢; skip); repeat' (first | (with_reducible exact Below.refl _ _) | (with_reducible assumption) | (with_reducible refine Below.alloc ?_ ?_ _) | (with_reducible refine Below.drew ?_) | (with_reducible refine below_drewN ?_ _) | (with_reducible refine Below.setCell ?_ ?_ _) | (with_reducible refine Below.trans ?_ (Below.mono (by with_reducible assumption) ?_)) | omega | (simp only [ZA, ZS, ZD, ZN]; omega) | go_size))⟩
      · have HCR2 := Lib.hid (HCR.out.trans (if_neg (by rintro (h | h); exact h hp; exact hlt h)))
        have hz9 : ∃ z : Int, 0 ≤ z ∧ sgnQ (valR r - q) = z := by
          by_cases e : valR r - q = 0
          · exact ⟨0, by omega, by rw [e]; rfl⟩
          · exact ⟨1, by omega, sgn_pos (by grind)⟩
        obtain ⟨z, hz0, hz1⟩ := hz9
        have HC' := Lib.hid (fun W u hb hu => HC.out W u z hb hu hz1)
        have e5 : decide (z < 0) = false := by simp; omega
        clear hp hv hlt HS HC hz1
        go_enter Tryz.func101, Tryz.ntmps101
        (go_wp2_with fail; (with_reducible refine (K1.out _ (by (skip); repeat' (first | (with_reducible exact Below.refl _ _) | (with_reducible assumption) | (with_reducible refine Below.alloc ?_ ?_ _) | (with_reducible refine Below.drew ?_) | (with_reducible refine below_drewN ?_ _) | (with_reducible refine Below.setCell ?_ ?_ _) | (with_reducible refine Below.trans ?_ (Below.mono (by with_reducible assumption) ?_)) | omega | (simp only [ZA, ZS, ZD, ZN]; omega) | go_size))).mono ?_); rintro e w1 ⟨hR, hb1⟩; have hb1z := Below.size hb1; (try simp only [ZA, ZS, ZD, ZN] at hb1z); have hb1c0 := fun o => below_at hb1 (w.heap.size) o (by first | omega | (simp only [ZA, ZS, ZD, ZN]; omega)); have hb1f0 := fun o => below_fr hb1 (w.heap.size) o (by first | omega | (simp only [ZA, ZS, ZD, ZN]; omega)); have hb1c1 := fun o => below_at hb1 (w.heap.size + 1) o (by first | omega | (simp only [ZA, ZS, ZD, ZN]; omega)); have hb1f1 := fun o => below_fr hb1 (w.heap.size + 1) o (by first | omega | (simp only [ZA, ZS, ZD, ZN]; omega)))
        unfold RetQe at hR
        rw [if_pos H0.out] at hR
        obtain ⟨v1, rfl, hv1⟩ := hR
        obtain ⟨s1, A1, n1, c1, B1, m1, d1, rfl⟩ := hv1.form
        have hw1 : w.heap.size + 1 < w1.heap.size := by have := hb1.size; simp at this; omega
        (have olc := fun o i => below_at ((Below.refl w1.heap.size w1).alloc (Nat.le_refl _) o) (w.heap.size) i (by omega)); (have olf := fun o i => below_fr ((Below.refl w1.heap.size w1).alloc (Nat.le_refl _) o) (w.heap.size) i (by omega))
        (have omc := fun o i => below_at ((Below.refl w1.heap.size w1).alloc (Nat.le_refl _) o) (w.heap.size + 1) i (by omega)); (have omf := fun o i => below_fr ((Below.refl w1.heap.size w1).alloc (Nat.le_refl _) o) (w.heap.size + 1) i (by omega))
        (go_wp2_with fail; (with_reducible refine (HV.out _ (by have z0 := Below.size hb1; (try simp only [ZA, ZS, ZD, ZN] at z0 ⊢; skip); repeat' (first | (with_reducible exact Below.refl _ _) | (with_reducible assumption) | (with_reducible refine Below.alloc ?_ ?_ _) | (with_reducible refine Below.drew ?_) | (with_reducible refine below_drewN ?_ _) | (with_reducible refine Below.setCell ?_ ?_ _) | (with_reducible refine Below.trans ?_ (Below.mono (by with_reducible assumption) ?_)) | omega | (simp only [ZA, ZS, ZD, ZN]; omega) | go_size))).mono ?_); rintro e w2 ⟨rfl, hb2⟩; have hb2z := Below.size hb2; (try simp only [ZA, ZS, ZD, ZN] at hb2z); have hb2c0 := fun o => below_at hb2 (w.heap.size) o (by first | omega | (simp only [ZA, ZS, ZD, ZN]; omega)); have hb2f0 := fun o => below_fr hb2 (w.heap.size) o (by first | omega | (simp only [ZA, ZS, ZD, ZN]; omega)); have hb2c1 := fun o => below_at hb2 (w.heap.size + 1) o (by first | omega | (simp only [ZA, ZS, ZD, ZN]; omega)); have hb2f1 := fun o => below_fr hb2 (w.heap.size + 1) o (by first | omega | (simp only [ZA, ZS, ZD, ZN]; omega)); have hb2c2 := fun o => below_at hb2 (w1.heap.size) o (by first | omega | (simp only [ZA, ZS, ZD, ZN]; omega)); have hb2f2 := fun o => below_fr hb2 (w1.heap.size) o (by first | omega | (simp only [ZA, ZS, ZD, ZN]; omega)))
        (go_wp2_with fail; (with_reducible refine (HS'.out _ (by have z0 := Below.size hb1; have z1 := Below.size hb2; (try simp only [ZA, ZS, ZD, ZN] at z0 z1 ⊢; skip); repeat' (first | (with_reducible exact Below.refl _ _) | (with_reducible assumption) | (with_reducible refine Below.alloc ?_ ?_ _) | (with_reducible refine Below.drew ?_) | (with_reducible refine below_drewN ?_ _) | (with_reducible refine Below.setCell ?_ ?_ _) | (with_reducible refine Below.trans ?_ (Below.mono (by with_reducible assumption) ?_)) | omega | (simp only [ZA, ZS, ZD, ZN]; omega) | go_size))).mono ?_); rintro e w3 ⟨rfl, hb3⟩; have hb3z := Below.size hb3; (try simp only [ZA, ZS, ZD, ZN] at hb3z); have hb3c0 := fun o => below_at hb3 (w.heap.size) o (by first | omega | (simp only [ZA, ZS, ZD, ZN]; omega)); have hb3f0 := fun o => below_fr hb3 (w.heap.size) o (by first | omega | (simp only [ZA, ZS, ZD, ZN]; omega)); have hb3c1 := fun o => below_at hb3 (w.heap.size + 1) o (by first | omega | (simp only [ZA, ZS, ZD, ZN]; omega)); have hb3f1 := fun o => below_fr hb3 (w.heap.size + 1) o (by first | omega | (simp only [ZA, ZS, ZD, ZN]; omega)); have hb3c2 := fun o => below_at hb3 (w1.heap.size) o (by first | omega | (simp only [ZA, ZS, ZD, ZN]; omega)); have hb3f2 := fun o => below_fr hb3 (w1.heap.size) o (by first | omega | (simp only [ZA, ZS, ZD, ZN]; omega)))
        (go_wp2_with fail; (with_reducible refine (HC'.out _ _ (by have z0 := Below.size hb1; have z1 := Below.size hb2; have z2 := Below.size hb3; (try simp only [ZA, ZS, ZD, ZN] at z0 z1 z2 ⊢; skip); repeat' (first | (with_reducible exact Below.refl _ _) | (with_reducible assumption) | (with_reducible refine Below.alloc ?_ ?_ _) | (with_reducible refine Below.drew ?_) | (with_reducible refine below_drewN ?_ _) | (with_reducible refine Below.setCell ?_ ?_ _) | (with_reducible refine Below.trans ?_ (Below.mono (by with_reducible assumption) ?_)) | omega | (simp only [ZA, ZS, ZD, ZN]; omega) | go_size)) (hv1.kp ((((Kp.refl 0 w1).alloc _).trans (Kp.of_below hb2)).trans (Kp.of_below hb3)))).mono ?_); rintro e w4 ⟨rfl, hb4⟩; have hb4z := Below.size hb4; (try simp only [ZA, ZS, ZD, ZN] at hb4z); have hb4c0 := fun o => below_at hb4 (w.heap.size) o (by first | omega | (simp only [ZA, ZS, ZD, ZN]; omega)); have hb4f0 := fun o => below_fr hb4 (w.heap.size) o (by first | omega | (simp only [ZA, ZS, ZD, ZN]; omega)); have hb4c1 := fun o => below_at hb4 (w.heap.size + 1) o (by first | omega | (simp only [ZA, ZS, ZD, ZN]; omega)); have hb4f1 := fun o => below_fr hb4 (w.heap.size + 1) o (by first | omega | (simp only [ZA, ZS, ZD, ZN]; omega)))
        go_wp2
        go_ret
        exact ⟨by rw [HCR2.out]; rfl, (by have z0 := Below.size hb1; have z1 := Below.size hb2; have z2 := Below.size hb3; have z3 := Below.size hb4; (try simp only [ZA, ZS, ZD, ZN] at z0 z1 z2 z3 ⊢; skip); repeat' (first | (with_reducible exact Below.refl _ _) | (with_reducible assumption) | (with_reducible refine Below.alloc ?_ ?_ _) | (with_reducible refine Below.drew ?_) | (with_reducible refine below_drewN ?_ _) | (with_reducible refine Below.setCell ?_ ?_ _) | (with_reducible refine Below.trans ?_ (Below.mono (by with_reducible assumption) ?_)) | omega | (simp only [ZA, ZS, ZD, ZN]; omega) | go_size))⟩
    · have HCR2 := Lib.hid (HCR.out.trans (if_pos (.inl hp)))
      cases hv : validR r
      · rw [hv] at HV
        clear hp hv HS HC
        go_enter Tryz.func101, Tryz.ntmps101
        (go_wp2_with fail; (with_reducible refine (K1.out _ (by (skip); repeat' (first | (with_reducible exact Below.refl _ _) | (with_reducible assumption) | (with_reducible refine Below.alloc ?_ ?_ _) | (with_reducible refine Below.drew ?_) | (with_reducible refine below_drewN ?_ _) | (with_reducible refine Below.setCell ?_ ?_ _) | (with_reducible refine Below.trans ?_ (Below.mono (by with_reducible assumption) ?_)) | omega | (simp only [ZA, ZS, ZD, ZN]; omega) | go_size))).mono ?_); rintro e w1 ⟨hR, hb1⟩; have hb1z := Below.size hb1; (try simp only [ZA, ZS, ZD, ZN] at hb1z); have hb1c0 := fun o => below_at hb1 (w.heap.size) o (by first | omega | (simp only [ZA, ZS, ZD, ZN]; omega)); have hb1f0 := fun o => below_fr hb1 (w.heap.size) o (by first | omega | (simp only [ZA, ZS, ZD, ZN]; omega)); have hb1c1 := fun o => below_at hb1 (w.heap.size + 1) o (by first | omega | (simp only [ZA, ZS, ZD, ZN]; omega)); have hb1f1 := fun o => below_fr hb1 (w.heap.size + 1) o (by first | omega | (simp only [ZA, ZS, ZD, ZN]; omega)))
        unfold RetQe at hR
        rw [if_pos H0.out] at hR
        obtain ⟨v1, rfl, hv1⟩ := hR
        obtain ⟨s1, A1, n1, c1, B1, m1, d1, rfl⟩ := hv1.form
        have hw1 : w.heap.size + 1 < w1.heap.size := by have := hb1.size; simp at this; omega
        (have olc := fun o i => below_at ((Below.refl w1.heap.size w1).alloc (Nat.le_refl _) o) (w.heap.size) i (by omega)); (have olf := fun o i => below_fr ((Below.refl w1.heap.size w1).alloc (Nat.le_refl _) o) (w.heap.size) i (by omega))
        (have omc := fun o i => below_at ((Below.refl w1.heap.size w1).alloc (Nat.le_refl _) o) (w.heap.size + 1) i (by omega)); (have omf := fun o i => below_fr ((Below.refl w1.heap.size w1).alloc (Nat.le_refl _) o) (w.heap.size + 1) i (by omega))
        (go_wp2_with fail; (with_reducible refine (HV.out _ (by have z0 := Below.size hb1; (try simp only [ZA, ZS, ZD, ZN] at z0 ⊢; skip); repeat' (first | (with_reducible exact Below.refl _ _) | (with_reducible assumption) | (with_reducible refine Below.alloc ?_ ?_ _) | (with_reducible refine Below.drew ?_) | (with_reducible refine below_drewN ?_ _) | (with_reducible refine Below.setCell ?_ ?_ _) | (with_reducible refine Below.trans ?_ (Below.mono (by with_reducible assumption) ?_)) | omega | (simp only [ZA, ZS, ZD, ZN]; omega) | go_size))).mono ?_); rintro e w2 ⟨rfl, hb2⟩; have hb2z := Below.size hb2; (try simp only [ZA, ZS, ZD, ZN] at hb2z); have hb2c0 := fun o => below_at hb2 (w.heap.size) o (by first | omega | (simp only [ZA, ZS, ZD, ZN]; omega)); have hb2f0 := fun o => below_fr hb2 (w.heap.size) o (by first | omega | (simp only [ZA, ZS, ZD, ZN]; omega)); have hb2c1 := fun o => below_at hb2 (w.heap.size + 1) o (by first | omega | (simp only [ZA, ZS, ZD, ZN]; omega)); have hb2f1 := fun o => below_fr hb2 (w.heap.size + 1) o (by first | omega | (simp only [ZA, ZS, ZD, ZN]; omega)); have hb2c2 := fun o => below_at hb2 (w1.heap.size) o (by first | omega | (simp only [ZA, ZS, ZD, ZN]; omega)); have hb2f2 := fun o => below_fr hb2 (w1.heap.size) o (by first | omega | (simp only [ZA, ZS, ZD, ZN]; omega)))
        go_wp2
        go_ret
        exact ⟨by rw [HCR2.out]; rfl, (by have z0 := Below.size hb1; have z1 := Below.size hb2; (try simp only [ZA, ZS, ZD, ZN] at z0 z1 ⊢; skip); repeat' (first | (with_reducible exact Below.refl _ _) | (with_reducible assumption) | (with_reducible refine Below.alloc ?_ ?_ _) | (with_reducible refine Below.drew ?_) | (with_reducible refine below_drewN ?_ _) | (with_reducible refine Below.setCell ?_ ?_ _) | (with_reducible refine Below.trans ?_ (Below.mono (by with_reducible assumption) ?_)) | omega | (simp only [ZA, ZS, ZD, ZN]; omega) | go_size))⟩
      · rw [hv] at HV
        have hz9 : ∃ z : Int, z ≤ 0 ∧ sgnQ (valR r) = z := by
          rcases sgn_le hp with e | e
          · exact ⟨0, by omega, e⟩
          · exact ⟨-1, by omega, e⟩
        obtain ⟨z, hz0, hz1⟩ := hz9
        have HS' := Lib.hid (fun W hb => HS.out W z hb hz1)
        have e6 : decide (z ≤ 0) = true := by simpa using hz0
        clear hp hv HS HC hz1
        go_enter Tryz.func101, Tryz.ntmps101
        (go_wp2_with fail; (with_reducible refine (K1.out _ (by (skip); repeat' (first | (with_reducible exact Below.refl _ _) | (with_reducible assumption) | (with_reducible refine Below.alloc ?_ ?_ _) | (with_reducible refine Below.drew ?_) | (with_reducible refine below_drewN ?_ _) | (with_reducible refine Below.setCell ?_ ?_ _) | (with_reducible refine Below.trans ?_ (Below.mono (by with_reducible assumption) ?_)) | omega | (simp only [ZA, ZS, ZD, ZN]; omega) | go_size))).mono ?_); rintro e w1 ⟨hR, hb1⟩; have hb1z := Below.size hb1; (try simp only [ZA, ZS, ZD, ZN] at hb1z); have hb1c0 := fun o => below_at hb1 (w.heap.size) o (by first | omega | (simp only [ZA, ZS, ZD, ZN]; omega)); have hb1f0 := fun o => below_fr hb1 (w.heap.size) o (by first | omega | (simp only [ZA, ZS, ZD, ZN]; omega)); have hb1c1 := fun o => below_at hb1 (w.heap.size + 1) o (by first | omega | (simp only [ZA, ZS, ZD, ZN]; omega)); have hb1f1 := fun o => below_fr hb1 (w.heap.size + 1) o (by first | omega | (simp only [ZA, ZS, ZD, ZN]; omega)))
        unfold RetQe at hR
        rw [if_pos H0.out] at hR
        obtain ⟨v1, rfl, hv1⟩ := hR
        obtain ⟨s1, A1, n1, c1, B1, m1, d1, rfl⟩ := hv1.form
        have hw1 : w.heap.size + 1 < w1.heap.size := by have := hb1.size; simp at this; omega
        (have olc := fun o i => below_at ((Below.refl w1.heap.size w1).alloc (Nat.le_refl _) o) (w.heap.size) i (by omega)); (have olf := fun o i => below_fr ((Below.refl w1.heap.size w1).alloc (Nat.le_refl _) o) (w.heap.size) i (by omega))
        (have omc := fun o i => below_at ((Below.refl w1.heap.size w1).alloc (Nat.le_refl _) o) (w.heap.size + 1) i (by omega)); (have omf := fun o i => below_fr ((Below.refl w1.heap.size w1).alloc (Nat.le_refl _) o) (w.heap.size + 1) i (by omega))
        (go_wp2_with fail; (with_reducible refine (HV.out _ (by have z0 := Below.size hb1; (try simp only [ZA, ZS, ZD, ZN] at z0 ⊢; skip); repeat' (first | (with_reducible exact Below.refl _ _) | (with_reducible assumption) | (with_reducible refine Below.alloc ?_ ?_ _) | (with_reducible refine Below.drew ?_) | (with_reducible refine below_drewN ?_ _) | (with_reducible refine Below.setCell ?_ ?_ _) | (with_reducible refine Below.trans ?_ (Below.mono (by with_reducible assumption) ?_)) | omega | (simp only [ZA, ZS, ZD, ZN]; omega) | go_size))).mono ?_); rintro e w2 ⟨rfl, hb2⟩; have hb2z := Below.size hb2; (try simp only [ZA, ZS, ZD, ZN] at hb2z); have hb2c0 := fun o => below_at hb2 (w.heap.size) o (by first | omega | (simp only [ZA, ZS, ZD, ZN]; omega)); have hb2f0 := fun o => below_fr hb2 (w.heap.size) o (by first | omega | (simp only [ZA, ZS, ZD, ZN]; omega)); have hb2c1 := fun o => below_at hb2 (w.heap.size + 1) o (by first | omega | (simp only [ZA, ZS, ZD, ZN]; omega)); have hb2f1 := fun o => below_fr hb2 (w.heap.size + 1) o (by first | omega | (simp only [ZA, ZS, ZD, ZN]; omega)); have hb2c2 := fun o => below_at hb2 (w1.heap.size) o (by first | omega | (simp only [ZA, ZS, ZD, ZN]; omega)); have hb2f2 := fun o => below_fr hb2 (w1.heap.size) o (by first | omega | (simp only [ZA, ZS, ZD, ZN]; omega)))
        (go_wp2_with fail; (with_reducible refine (HS'.out _ (by have z0 := Below.size hb1; have z1 := Below.size hb2; (try simp only [ZA, ZS, ZD, ZN] at z0 z1 ⊢; skip); repeat' (first | (with_reducible exact Below.refl _ _) | (with_reducible assumption) | (with_reducible refine Below.alloc ?_ ?_ _) | (with_reducible refine Below.drew ?_) | (with_reducible refine below_drewN ?_ _) | (with_reducible refine Below.setCell ?_ ?_ _) | (with_reducible refine Below.trans ?_ (Below.mono (by with_reducible assumption) ?_)) | omega | (simp only [ZA, ZS, ZD, ZN]; omega) | go_size))).mono ?_); rintro e w3 ⟨rfl, hb3⟩; have hb3z := Below.size hb3; (try simp only [ZA, ZS, ZD, ZN] at hb3z); have hb3c0 := fun o => below_at hb3 (w.heap.size) o (by first | omega | (simp only [ZA, ZS, ZD, ZN]; omega)); have hb3f0 := fun o => below_fr hb3 (w.heap.size) o (by first | omega | (simp only [ZA, ZS, ZD, ZN]; omega)); have hb3c1 := fun o => below_at hb3 (w.heap.size + 1) o (by first | omega | (simp only [ZA, ZS, ZD, ZN]; omega)); have hb3f1 := fun o => below_fr hb3 (w.heap.size + 1) o (by first | omega | (simp only [ZA, ZS, ZD, ZN]; omega)); have hb3c2 := fun o => below_at hb3 (w1.heap.size) o (by first | omega | (simp only [ZA, ZS, ZD, ZN]; omega)); have hb3f2 := fun o => below_fr hb3 (w1.heap.size) o (by first | omega | (simp only [ZA, ZS, ZD, ZN]; omega)))
        go_wp2
        go_ret
        exact ⟨by rw [HCR2.out]; rfl, (by have z0 := Below.size hb1; have z1 := Below.size hb2; have z2 := Below.size hb3; (try simp only [ZA, ZS, ZD, ZN] at z0 z1 z2 ⊢; skip); repeat' (first | (with_reducible exact Below.refl _ _) | (with_reducible assumption) | (with_reducible refine Below.alloc ?_ ?_ _) | (with_reducible refine Below.drew ?_) | (with_reducible refine below_drewN ?_ _) | (with_reducible refine Below.setCell ?_ ?_ _) | (with_reducible refine Below.trans ?_ (Below.mono (by with_reducible assumption) ?_)) | omega | (simp only [ZA, ZS, ZD, ZN]; omega) | go_size))⟩
  · have hE := errM_n h0
    rw [if_pos h0] at hcR
    have H0 := Lib.hid h0
    have HE := Lib.hid hE
    have HCR := Lib.hid hcR
    clear hok hsz h0 h hs hcc hE hq hcr hcR hr
    obtain ⟨st, sr, nm, F, T, R, nd, D⟩ := c
    simp only at *
    go_enter Tryz.func101, Tryz.ntmps101
    (go_wp2_with fail; (with_reducible refine (K1.out _ (by (skip); repeat' (first | (with_reducible exact Below.refl _ _) | (with_reducible assumption) | (with_reducible refine Below.alloc ?_ ?_ _) | (with_reducible refine Below.drew ?_) | (with_reducible refine below_drewN ?_ _) | (with_reducible refine Below.setCell ?_ ?_ _) | (with_reducible refine Below.trans ?_ (Below.mono (by with_reducible assumption) ?_)) | omega | (simp only [ZA, ZS, ZD, ZN]; omega) | go_size))).mono ?_); rintro e w1 ⟨hR, hb1⟩; have hb1z := Below.size hb1; (try simp only [ZA, ZS, ZD, ZN] at hb1z); have hb1c0 := fun o => below_at hb1 (w.heap.size) o (by first | omega | (simp only [ZA, ZS, ZD, ZN]; omega)); have hb1f0 := fun o => below_fr hb1 (w.heap.size) o (by first | omega | (simp only [ZA, ZS, ZD, ZN]; omega)); have hb1c1 := fun o => below_at hb1 (w.heap.size + 1) o (by first | omega | (simp only [ZA, ZS, ZD, ZN]; omega)); have hb1f1 := fun o => below_fr hb1 (w.heap.size + 1) o (by first | omega | (simp only [ZA, ZS, ZD, ZN]; omega)))
    unfold RetQe at hR
    rw [if_neg H0.out, HE.out] at hR
    subst hR
    go_wp2
    go_ret
    exact ⟨by rw [HCR.out, HE.out]; rfl, (by have z0 := Below.size hb1; (try simp only [ZA, ZS, ZD, ZN] at z0 ⊢; skip); repeat' (first | (with_reducible exact Below.refl _ _) | (with_reducible assumption) | (with_reducible refine Below.alloc ?_ ?_ _) | (with_reducible refine Below.drew ?_) | (with_reducible refine below_drewN ?_ _) | (with_reducible refine Below.setCell ?_ ?_ _) | (with_reducible refine Below.trans ?_ (Below.mono (by with_reducible assumption) ?_)) | omega | (simp only [ZA, ZS, ZD, ZN]; omega) | go_size))⟩
end Go.Proofs.YtlncafhgmbhocaaGreatDoor
