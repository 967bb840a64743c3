/- Contracts of functions and lemmas, used by the proofs of the given statements. No condition beyond those that each lemma names. -/
import Derived.Test.YtglpknhcneggeaaGreatDoorTrR7
namespace Go.Proofs.YtglpknhcneggeaaGreatDoor
open Go.RowKit
set_option linter.unusedSimpArgs false
set_option linter.unusedVariables false
set_option maxRecDepth 20000
attribute [local irreducible] nv wp win plainB validR valR canR mvE chkM codeC exK maxF dsum
/-! ## reference: Downs -/
set_option maxHeartbeats 8000000 in
theorem rdowns_any {w : World} {AM AD : Option Addr} {cm cd L : Nat} {c : Chn} {v : Value} {r : Rw} {n : Int} (h : ChI w w.heap.size AM cm AD cd c) (hs : ChS c L) (hr : RdS w w.heap.size v r) (hr1 : r.2.1.length ≤ 4) (hr2 : r.2.2.length ≤ 4) (hd : DnS c false r n L) :
    Calls Tryz.prog 18 #[cv c.st c.sr AM c.nm cm AD c.nd cd, v, .int .i64 n] w fun e w' => RetVxc (n.toNat + 1) (fun k => dsum c.D (c.run false (valR r) k) c.nd) (c.codeN r n) e w' ∧ Below w.heap.size w w' := by
  have hst := hd.st
  have hds := hd.ds
  have hL := hd.L1
  have hL2 := hd.L2
  have K1 := Lib.hid (fun W (hb : Below w.heap.size w W) => given_any (n := n) (h.below hb) hs ((hr.kp (Kp.of_below hb)).base hb.size) hr1 hr2)
  have hN := Chn.codeN_0 (c := c) (r := r) (n := n)
  have hR0 := Chn.codeR_0 (c := c) (r := r)
  have hok := Chn.ok_iff (c := c)
  have hKA : c.codeN r n = 0 → ∀ W (k : Nat), (k : Int) ≤ n → Below w.heap.size w W → Calls Tryz.prog 17 #[cv c.st c.sr AM c.nm cm AD c.nd cd, v, .int .i64 (k : Int)] W fun e w' => RetVxc c.nd (c.run false (valR r) k) 0 e w' ∧ Below W.heap.size W w' := by
    intro h0 W k hk hb
    have hN0 := hN h0
    have hk0 : c.codeN r (k : Int) = 0 := by
      unfold Chn.codeN
      rw [if_neg (by omega), if_neg (by omega)]
    have := rafter_any (n := (k : Int)) (h.below hb) hs ((hr.kp (Kp.of_below hb)).base hb.size) hr1 hr2 (fun _ j hj => hst h0 j (by omega))
    rw [hk0, Int.toNat_natCast] at this
    exact this
  obtain ⟨ct, hct⟩ : ∃ ct, ct = c.codeN r n := ⟨_, rfl⟩
  obtain ⟨X, hX⟩ : ∃ X, X = c.run false (valR r) := ⟨_, rfl⟩
  rw [← hct] at K1 hN hKA hds ⊢
  rw [← hX] at hKA hds ⊢
  obtain ⟨s0, A0, n0, c0, B0, m0, d0, rfl⟩ := hr.form
  by_cases h0 : ct = 0
  · obtain ⟨hN1, h1, h2⟩ := hN h0
    have ok := hok.1 (hR0 hN1).1
    have hnd := ok.hi
    obtain ⟨m, rfl⟩ : ∃ m : Nat, n = (m : Int) := ⟨n.toNat, by omega⟩
    rw [Int.toNat_natCast]
    have H0 := Lib.hid h0
    have hm9 : m ≤ 48 := by omega
    have HDS := Lib.hid (fun k (hk : k ≤ m) => hds h0 k (by omega))
    have HDN := Lib.hid (fun k (hk : k < c.nd) => h.down hk)
    have HKA := Lib.hid (hKA h0)
    rw [h0] at K1
    clear hN hR0 hok hN1 ok hct hX h0 h1 h2 h hs hr hst hds hKA hd
    obtain ⟨st, sr, nm, F, T, R', nd, D⟩ := c
    simp only at *
    have HD0 := Lib.hid (fun x => (by unfold dsum; rfl : dsum D x 0 = 0))
    have HD1 := Lib.hid (fun x j => (by conv => lhs; unfold dsum : dsum D x (j + 1) = if D j = true then dsum D x j + x j else dsum D x j))
    go_enter Tryz.func18, Tryz.ntmps18
    (go_wp2_with fail; (with_reducible refine (K1.out _ (by (skip); repeat' (first | (with_reducible exact Below.refl _ _) | (with_reducible assumption) | (with_reducible refine Below.alloc ?_ ?_ _) | (with_reducible refine Below.drew ?_) | (with_reducible refine below_drewN ?_ _) | (with_reducible refine Below.setCell ?_ ?_ _) | (with_reducible refine Below.trans ?_ (Below.mono (by with_reducible assumption) ?_)) | omega | (simp only [World.size_alloc, World.size_setCell, World.size_drew, size_drewN']; omega) | go_size))).mono ?_); rintro e w1 ⟨rfl, hb1⟩; have hb1z := Below.size hb1; (try simp only [World.size_alloc, World.size_setCell, World.size_drew, size_drewN'] at hb1z); have hb1c0 := fun o => below_at hb1 (w.heap.size) o (by first | omega | (simp only [World.size_alloc, World.size_setCell, World.size_drew, size_drewN']; omega)); have hb1f0 := fun o => below_fr hb1 (w.heap.size) o (by first | omega | (simp only [World.size_alloc, World.size_setCell, World.size_drew, size_drewN']; omega)); have hb1c1 := fun o => below_at hb1 (w.heap.size + 1) o (by first | omega | (simp only [World.size_alloc, World.size_setCell, World.size_drew, size_drewN']; omega)); have hb1f1 := fun o => below_fr hb1 (w.heap.size + 1) o (by first | omega | (simp only [World.size_alloc, World.size_setCell, World.size_drew, size_drewN']; omega)))
    have hw1 : w.heap.size + 1 < w1.heap.size := by have := hb1.size; simp at this; omega
    have y0 : w1.cell? ⟨w.heap.size, 0, none⟩ = some (.int .i64 st) := by rw [hb1c0]; simp
    have y1 : w1.cell? ⟨w.heap.size, 1, none⟩ = some (.int .i64 sr) := by rw [hb1c0]; simp
    have y2 : w1.cell? ⟨w.heap.size, 2, none⟩ = some (.slice AM nm cm) := by rw [hb1c0]; simp
    have y3 : w1.cell? ⟨w.heap.size, 3, none⟩ = some (.slice AD nd cd) := by rw [hb1c0]; simp
    have y4 : w1.cell? ⟨w.heap.size + 1, 0, none⟩ = some (.bool s0) := by rw [hb1c1]; simp
    have y5 : w1.cell? ⟨w.heap.size + 1, 1, none⟩ = some (.slice A0 n0 c0) := by rw [hb1c1]; simp
    have y6 : w1.cell? ⟨w.heap.size + 1, 2, none⟩ = some (.slice B0 m0 d0) := by rw [hb1c1]; simp
    have hbw1 : Below w.heap.size w w1 := (by have z0 := Below.size hb1; (try simp only [World.size_alloc, World.size_setCell, World.size_drew, size_drewN'] at z0 ⊢; skip); repeat' (first | (with_reducible exact Below.refl _ _) | (with_reducible assumption) | (with_reducible refine Below.alloc ?_ ?_ _) | (with_reducible refine Below.drew ?_) | (with_reducible refine below_drewN ?_ _) | (with_reducible refine Below.setCell ?_ ?_ _) | (with_reducible refine Below.trans ?_ (Below.mono (by with_reducible assumption) ?_)) | omega | (simp only [World.size_alloc, World.size_setCell, World.size_drew, size_drewN']; omega) | go_size))
    clear hb1c0 hb1c1 hb1f0 hb1f1
    go_wp2
    go_loopw [25, 9] (fun i oo wr => ∃ (k : Nat) (Ao : Option Addr) (co : Nat), k ≤ m + 1 ∧ i = .int .i64 (k : Int) ∧ oo = .slice Ao k co ∧ OwR wr w1.heap.size Ao co k (can fun k => dsum D (X k) nd) ∧ Below w1.heap.size w1 wr) (fun i _ _ => m + 1 - (intOf i).toNat)
    case atStart => exact ⟨0, none, 0, Nat.zero_le _, rfl, rfl, OwR.nil_ _ _ _, Below.refl _ _⟩
    case round =>
      obtain ⟨k, Ao, co, hk, rfl, rfl, own, hb⟩ := hrel
      have hbz := hb.size
      have HO0 := Lib.hid own
      clear own
      by_cases hlt : k < m + 1
      · have tv : ∀ {b o : Nat} {v : Value}, b < w.heap.size + 2 → w1.cell? ⟨b, o, none⟩ = some v → wr.cell? ⟨b, o, none⟩ = some v := fun hb9 h => (hb.cell (p := ⟨_, _, none⟩) (Nat.lt_of_lt_of_le hb9 (by omega))).trans h
        have z0 := tv (by omega) y0
        have z1 := tv (by omega) y1
        have z2 := tv (by omega) y2
        have z3 := tv (by omega) y3
        have z4 := tv (by omega) y4
        have z5 := tv (by omega) y5
        have z6 := tv (by omega) y6
        have hki : (k : Int) < (m : Int) + 1 := by omega
        have hk0 : (0 : Int) ≤ (k : Int) := by omega
        have hm0 : (0 : Int) ≤ (m : Int) := by omega
        have hm1 : (m : Int) ≤ 48 := by omega
        have KS := Lib.hid (HKA.out wr k (by omega) (hbw1.trans (hb.mono (by omega))))
        obtain ⟨hd1, hd2⟩ := HDS.out k (by omega)
        obtain ⟨Xk, hXk⟩ : ∃ Xk, Xk = X k := ⟨_, rfl⟩
        rw [← hXk] at KS hd1 hd2
        have HXK := Lib.hid hXk
        have HD2 := Lib.hid hd1
        have HD3 := Lib.hid hd2
        have HB0 := Lib.hid hb
        clear hXk hd1 hd2 tv hb
        (go_wp2_with fail; (with_reducible refine (KS.out).mono ?_); rintro e w7 ⟨hR, hb7⟩; have hb7z := Below.size hb7; (try simp only [World.size_alloc, World.size_setCell, World.size_drew, size_drewN'] at hb7z))
        unfold RetVxc at hR
        rw [if_pos rfl] at hR
        obtain ⟨Aj, cj, bj, rfl, hbj, ow⟩ := hR
        have hb : Below w1.heap.size w1 w7 := HB0.out.trans (hb7.mono hbz)
        have HO := Lib.hid (HO0.out.below hb7)
        have hbz := hb.size
        have HOW := Lib.hid ow
        clear ow z0 z1 z2 z3 z4 z5 z6
        obtain ⟨wo, hwo⟩ : ∃ wo, wo = w7 := ⟨_, rfl⟩
        subst hwo
        go_wp2
        go_loopw [37] (fun j wr => ∃ i : Nat, i ≤ nd ∧ j = .int .i64 (i : Int) ∧ SumR wo.heap.size (dsum D Xk i) wr ∧ Below wo.heap.size wo wr ∧ wo.heap.size < wr.heap.size ∧ RatB wr wo.heap.size ∧ ∀ i, wr.frozen? ⟨wo.heap.size, i, none⟩ = false) (fun j _ => nd - (intOf j).toNat)
        case atStart =>
          refine ⟨0, Nat.zero_le _, rfl, ⟨false, none, 0, 0, none, 0, 0, by simp, by simp, by simp, by rw [HD0.out]; exact (OwQ.zero _ 0).rs⟩, (Below.refl _ _).alloc (Nat.le_refl _) _, by simp, RatB.new _ _, fun i => by simp⟩
        case round =>
          obtain ⟨i, hi, rfl, ⟨s3, A3, n3, c3', B3, m3, d3, g0, g1, g2, r3⟩, hb2, hz2, hrb, hfz⟩ := hrel
          by_cases hin : i < nd
          · obtain ⟨bx, ox, s1, A1', n1, c1', B1, m1, d1, rfl, hbx, f0, f1, f2, r1⟩ := HOW.out.ra.at_ hin
            obtain ⟨bd, od, rfl, hbd, -, p0⟩ := HDN.out i hin
            have hb12 : Below w1.heap.size w1 wr := hb.trans (hb2.mono hbz)
            have e0 := (hb2.cell (lt_of_cell f0)).trans f0
            have e1 := (hb2.cell (lt_of_cell f1)).trans f1
            have e2 := (hb2.cell (lt_of_cell f2)).trans f2
            have e3 := (hb12.cell (p := ⟨bd, od + i, none⟩) (by have := hbw1.size; show bd < _; omega)).trans ((hbw1.cell (p := ⟨bd, od + i, none⟩) hbd).trans p0)
            have e4 := (hb12.cell (p := ⟨w.heap.size, 3, none⟩) (by show w.heap.size < _; omega)).trans y3
            have hii : (i : Int) < (nd : Int) := by omega
            have hi0 : (0 : Int) ≤ (i : Int) := by omega
            have hz12 := hb12.size
            have qs := r3.canQ (HD2.out i hi)
            have qx := (r1.kp (Kp.of_below hb2)).canQ (HD3.out i hin)
            have K2 := Lib.hid (fun W (hb : Below wr.heap.size wr W) => raddQ (qs.below hb) (qx.below hb) hL (by omega))
            have HR3 := Lib.hid r3
            have HB2 := Lib.hid hb2
            have HRB := Lib.hid hrb
            have HD9 := Lib.hid (HD1.out Xk i)
            have hbd9 : bd < wr.heap.size := by have := hbw1.size; omega
            have hbx9 : bx < wr.heap.size := by omega
            have hw9 : w.heap.size < wr.heap.size := by omega
            clear f0 f1 f2 p0 qs qx r3 r1 hb2 hrb hb12
            (have oddc := fun o i => below_at ((Below.refl wr.heap.size wr).alloc (Nat.le_refl _) o) (bd) i (by omega)); (have oddf := fun o i => below_fr ((Below.refl wr.heap.size wr).alloc (Nat.le_refl _) o) (bd) i (by omega))
            (have owwc := fun o i => below_at ((Below.refl wr.heap.size wr).alloc (Nat.le_refl _) o) (w.heap.size) i (by omega)); (have owwf := fun o i => below_fr ((Below.refl wr.heap.size wr).alloc (Nat.le_refl _) o) (w.heap.size) i (by omega))
            (have ossc := fun o i => below_at ((Below.refl wr.heap.size wr).alloc (Nat.le_refl _) o) (wo.heap.size) i (by omega)); (have ossf := fun o i => below_fr ((Below.refl wr.heap.size wr).alloc (Nat.le_refl _) o) (wo.heap.size) i (by omega))
            cases hD : D i
            · rw [hD] at e3
              have HE := Lib.hid (HD9.out.trans (by rw [hD]; simp : _ = dsum D Xk i))
              clear hD HD9
              go_wp2
              go_roundw
              case rel =>
                refine ⟨i + 1, by omega, by go_num, ⟨s3, A3, n3, c3', B3, m3, d3, by rw [ossc]; exact g0, by rw [ossc]; exact g1, by rw [ossc]; exact g2, by rw [HE.out]; exact HR3.out.kp ((Kp.refl 0 wr).alloc _)⟩, HB2.out.trans (by (skip); repeat' (first | (with_reducible exact Below.refl _ _) | (with_reducible assumption) | (with_reducible refine Below.alloc ?_ ?_ _) | (with_reducible refine Below.drew ?_) | (with_reducible refine below_drewN ?_ _) | (with_reducible refine Below.setCell ?_ ?_ _) | (with_reducible refine Below.trans ?_ (Below.mono (by with_reducible assumption) ?_)) | omega | (simp only [World.size_alloc, World.size_setCell, World.size_drew, size_drewN']; omega) | go_size)), by simp; omega, HRB.out.below ((Below.refl wr.heap.size _).alloc (Nat.le_refl _) _) hz2, fun i => by rw [ossf]; exact hfz i⟩
              case measure => simp [intOf]; omega
            · rw [hD] at e3
              have HE := Lib.hid (HD9.out.trans (by rw [hD]; simp : _ = dsum D Xk i + Xk i))
              clear hD HD9
              (go_wp2_with fail; (with_reducible refine (K2.out _ (by (skip); repeat' (first | (with_reducible exact Below.refl _ _) | (with_reducible assumption) | (with_reducible refine Below.alloc ?_ ?_ _) | (with_reducible refine Below.drew ?_) | (with_reducible refine below_drewN ?_ _) | (with_reducible refine Below.setCell ?_ ?_ _) | (with_reducible refine Below.trans ?_ (Below.mono (by with_reducible assumption) ?_)) | omega | (simp only [World.size_alloc, World.size_setCell, World.size_drew, size_drewN']; omega) | go_size))).mono ?_); rintro e w4 ⟨⟨v4, rfl, own4⟩, hb4⟩; have hb4z := Below.size hb4; (try simp only [World.size_alloc, World.size_setCell, World.size_drew, size_drewN'] at hb4z); have hb4c0 := fun o => below_at hb4 (wo.heap.size) o (by first | omega | (simp only [World.size_alloc, World.size_setCell, World.size_drew, size_drewN']; omega)); have hb4f0 := fun o => below_fr hb4 (wo.heap.size) o (by first | omega | (simp only [World.size_alloc, World.size_setCell, World.size_drew, size_drewN']; omega)))
              obtain ⟨s4, A4, n4, c4, B4, m4, d4, rfl⟩ := own4.form
              have HO4 := Lib.hid own4
              clear own4
              go_wp2
              go_roundw
              case rel =>
                have hrb4 : RatB w4 wo.heap.size := (HRB.out.below (w' := w4) (B := wr.heap.size) (by have z0 := Below.size hb4; (try simp only [World.size_alloc, World.size_setCell, World.size_drew, size_drewN'] at z0 ⊢; skip); repeat' (first | (with_reducible exact Below.refl _ _) | (with_reducible assumption) | (with_reducible refine Below.alloc ?_ ?_ _) | (with_reducible refine Below.drew ?_) | (with_reducible refine below_drewN ?_ _) | (with_reducible refine Below.setCell ?_ ?_ _) | (with_reducible refine Below.trans ?_ (Below.mono (by with_reducible assumption) ?_)) | omega | (simp only [World.size_alloc, World.size_setCell, World.size_drew, size_drewN']; omega) | go_size)) hz2)
                have s9 := set3 (w := w4) (g := wo.heap.size) (o := 0) (a := .bool s4) (b := .slice A4 n4 c4) (d := .slice B4 m4 d4) (by rw [hb4c0, ossc]; exact g0) (by rw [hb4c0, ossc]; exact g1) (by rw [hb4c0, ossc]; exact g2)
                refine ⟨i + 1, by omega, by go_num, ⟨s4, A4, n4, c4, B4, m4, d4, s9.1, s9.2.1, s9.2.2, by rw [HE.out]; exact HO4.out.rs.kp (Kp.store3 hrb4 (Nat.zero_le _) _ _ _)⟩, ?_, by simp; omega, ((hrb4.set _ _).set _ _).set _ _, fun i => ?_⟩
                · exact (((HB2.out.trans ((by have z0 := Below.size hb4; (try simp only [World.size_alloc, World.size_setCell, World.size_drew, size_drewN'] at z0 ⊢; skip); repeat' (first | (with_reducible exact Below.refl _ _) | (with_reducible assumption) | (with_reducible refine Below.alloc ?_ ?_ _) | (with_reducible refine Below.drew ?_) | (with_reducible refine below_drewN ?_ _) | (with_reducible refine Below.setCell ?_ ?_ _) | (with_reducible refine Below.trans ?_ (Below.mono (by with_reducible assumption) ?_)) | omega | (simp only [World.size_alloc, World.size_setCell, World.size_drew, size_drewN']; omega) | go_size)))).setCell (Nat.le_refl _) _).setCell (Nat.le_refl _) _).setCell (Nat.le_refl _) _
                · rw [World.frozen?_setCell, World.frozen?_setCell, World.frozen?_setCell, hb4f0, ossf]; exact hfz i
              case measure => simp [intOf]; omega
          · have hin2 : i = nd := by omega
            subst hin2
            have hal : Below wr.heap.size wr (wr.alloc (.cells #[.bool s3, .slice A3 n3 c3', .slice B3 m3 d3] 28)) := (Below.refl _ _).alloc (Nat.le_refl _) _
            have hr9 := (r3.kp (Kp.of_below (b0 := 0) hal)).base (Nat.zero_le w1.heap.size)
            have hb12 : Below w1.heap.size w1 wr := hb.trans (hb2.mono hbz)
            have HR9 := Lib.hid hr9
            have HB2 := Lib.hid hb2
            have HB12 := Lib.hid hb12
            clear r3 hr9 hb2 hb12 hrb
            go_wp2_with (first | (at_builtin; refine wpList_appR1 rfl (.tmp 51) (.tmp 53) rfl w1.heap.size Ao co k (can fun k => dsum D (X k) i) (by simp [Act.eval]) ((HO.out.below HB2.out).below hal) wr.heap.size s3 A3 n3 c3' B3 m3 d3 (canR (dsum D Xk i)) (by simp [Act.eval]) (by simp) (by simp) (by simp) HR9.out (by omega) (by simp; omega) ?_; intro A5 c5 w5 own5 hgr5 hfr5) | fail)
            have hb15 : Below w1.heap.size w1 w5 := (HB12.out.trans (hal.mono (by omega))).trans (below_of_row hgr5 (own_of HO.out) (by simp; omega))
            have own6 := own5
            rw [HXK.out, upd_can (f := fun k => dsum D (X k) i), upd_self] at own6
            have HO6 := Lib.hid own6
            have HB15 := Lib.hid hb15
            clear own5 own6 hb15
            go_wp2
            go_roundw
            case rel => exact ⟨k + 1, A5, c5, by omega, by go_num, rfl, HO6.out, HB15.out⟩
            case measure => simp [intOf]; omega
      · have hkm : k = m + 1 := by omega
        subst hkm
        have HB := Lib.hid hb
        clear hb
        go_wp2
        go_ret2
        exact ⟨retVxc_0 H0.out hbz HO0.out, hbw1.trans (HB.out.mono (by omega))⟩
  · have H0 := Lib.hid h0
    have e5 : (ct != 0) = true := by simpa using h0
    have e6 : (ct == 0) = false := by simpa using h0
    clear hN hR0 hok hct hX h0 h hs hr hst hds hKA hd
    obtain ⟨st, sr, nm, F, T, R', nd, D⟩ := c
    simp only at *
    go_enter Tryz.func18, Tryz.ntmps18
    (go_wp2_with fail; (with_reducible refine (K1.out _ (by (skip); repeat' (first | (with_reducible exact Below.refl _ _) | (with_reducible assumption) | (with_reducible refine Below.alloc ?_ ?_ _) | (with_reducible refine Below.drew ?_) | (with_reducible refine below_drewN ?_ _) | (with_reducible refine Below.setCell ?_ ?_ _) | (with_reducible refine Below.trans ?_ (Below.mono (by with_reducible assumption) ?_)) | omega | (simp only [World.size_alloc, World.size_setCell, World.size_drew, size_drewN']; omega) | go_size))).mono ?_); rintro e w1 ⟨rfl, hb1⟩; have hb1z := Below.size hb1; (try simp only [World.size_alloc, World.size_setCell, World.size_drew, size_drewN'] at hb1z); have hb1c0 := fun o => below_at hb1 (w.heap.size) o (by first | omega | (simp only [World.size_alloc, World.size_setCell, World.size_drew, size_drewN']; omega)); have hb1f0 := fun o => below_fr hb1 (w.heap.size) o (by first | omega | (simp only [World.size_alloc, World.size_setCell, World.size_drew, size_drewN']; omega)); have hb1c1 := fun o => below_at hb1 (w.heap.size + 1) o (by first | omega | (simp only [World.size_alloc, World.size_setCell, World.size_drew, size_drewN']; omega)); have hb1f1 := fun o => below_fr hb1 (w.heap.size + 1) o (by first | omega | (simp only [World.size_alloc, World.size_setCell, World.size_drew, size_drewN']; omega)))
    go_wp2
    go_ret2
    exact ⟨retVxc_n H0.out, (by have z0 := Below.size hb1; (try simp only [World.size_alloc, World.size_setCell, World.size_drew, size_drewN'] at z0 ⊢; skip); repeat' (first | (with_reducible exact Below.refl _ _) | (with_reducible assumption) | (with_reducible refine Below.alloc ?_ ?_ _) | (with_reducible refine Below.drew ?_) | (with_reducible refine below_drewN ?_ _) | (with_reducible refine Below.setCell ?_ ?_ _) | (with_reducible refine Below.trans ?_ (Below.mono (by with_reducible assumption) ?_)) | omega | (simp only [World.size_alloc, World.size_setCell, World.size_drew, size_drewN']; omega) | go_size))⟩
end Go.Proofs.YtglpknhcneggeaaGreatDoor
