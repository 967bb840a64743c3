/- Contracts of functions and lemmas, used by the proofs of the given statements. No condition beyond those that each lemma names. -/
import Derived.Test.YtmebdlilbnadgaaGreatDoorStaV
namespace Go.Proofs.YtmebdlilbnadgaaGreatDoor
open Go.RowKit
set_option linter.unusedSimpArgs false
set_option linter.unusedVariables false
set_option maxRecDepth 20000
attribute [local irreducible] nv wp win plainB validR valR canR mvE chkM codeC netS sumN dsum floG
/-! ## package stationary: Down, Balanced, Accepts, Closed -/
/-- what Down answers -/
def Chn.dwnV (c : Chn) (n : Nat) (R : Nat → Rw) : Rat := if c.codeCe n R = 0 then dsum c.D (vecQ n R) n else 0
set_option maxHeartbeats 16000000 in
theorem Down_any {w : World} {AM AD AV : Option Addr} {cm cd n ca : Nat} {c : Chn} {R : Nat → Rw} (h : DistS w AM cm AD cd c AV n R) :
    Calls Tryz.prog 31 #[cv c.st c.sr AM c.nm cm AD c.nd cd, .slice AV n ca] w fun e w' => AnsQ errM (c.dwnV n R) (c.codeCe n R) e w' ∧ Below w.heap.size w w' := by
  have K1 := Lib.hid (fun W (hb : Below w.heap.size w W) => certain_any (ca := ca) (h.below hb))
  have HPB := Lib.hid (fun W hb => par_below (W := W) (w := w) (o := .cells #[.int .i64 c.st, .int .i64 c.sr, .slice AM c.nm cm, .slice AD c.nd cd] 25) hb)
  have HPC := Lib.hid (fun W hb => par_cells (W := W) (w := w) (a := .int .i64 c.st) (b := .int .i64 c.sr) (d := .slice AM c.nm cm) (e := .slice AD c.nd cd) (t := 25) hb)
  have hW0z : (w.alloc (.cells #[.int .i64 c.st, .int .i64 c.sr, .slice AM c.nm cm, .slice AD c.nd cd] 25)).heap.size = w.heap.size + 1 := by simp
  have HR0 : Hid (VarR (w.heap.size + 1) 0 ((w.alloc (.cells #[.int .i64 c.st, .int .i64 c.sr, .slice AM c.nm cm, .slice AD c.nd cd] 25)).alloc (.cells #[.bool false, .slice none 0 0, .slice none 0 0] 30))) := by
    have h1 := VarR.new (w.alloc (.cells #[.int .i64 c.st, .int .i64 c.sr, .slice AM c.nm cm, .slice AD c.nd cd] 25))
    rw [hW0z] at h1
    exact h1
  have HAL0 : Hid (Below (w.heap.size + 1) (w.alloc (.cells #[.int .i64 c.st, .int .i64 c.sr, .slice AM c.nm cm, .slice AD c.nd cd] 25)) ((w.alloc (.cells #[.int .i64 c.st, .int .i64 c.sr, .slice AM c.nm cm, .slice AD c.nd cd] 25)).alloc (.cells #[.bool false, .slice none 0 0, .slice none 0 0] 30))) := (Below.refl _ _).alloc (by simp) _
  by_cases hC : c.codeCe n R = 0
  · obtain ⟨hB, -⟩ := Chn.codeCe_0 hC
    obtain ⟨h0, hnn, hv0⟩ := Chn.codeB_0 hB
    have ok := Chn.ok_iff.1 h0
    have hst := ok.st
    have hn1 := ok.lo
    have hn9 := h.sm.nd ok
    have hV : c.dwnV n R = dsum c.D (vecQ n R) n := by unfold Chn.dwnV; rw [if_pos hC]
    have hfz := h.fz hB
    have hVc := h.vec hB
    rw [hC, errM_0] at K1
    rw [hC, hV]
    subst hnn
    obtain ⟨X, hX⟩ : ∃ X, X = vecQ c.nd R := ⟨_, rfl⟩
    rw [← hX] at hfz hVc ⊢
    obtain ⟨M, hM⟩ : ∃ M, M = 220000100 := ⟨_, rfl⟩
    obtain ⟨-, -, -, -, b5⟩ := h.sm.bal ok _ X hfz
    have HSD : Hid (∀ k, k ≤ c.nd → Sz M (dsum c.D X k)) := fun k hk => (b5 k (by omega) _).more (by omega)
    have HXS : Hid (∀ s, Sz M (X s)) := fun s => ((hfz.more (show 220000000 ≤ 220000001 by omega)).sz (by omega) s).more (by omega)
    have HD0 : Hid (dsum c.D X 0 = 0) := by show dsum c.D X 0 = 0; unfold dsum; rfl
    have HDY : Hid (∀ k, c.D k = true → dsum c.D X (k + 1) = dsum c.D X k + X k) := fun k h1 => by conv => lhs; unfold dsum; rw [if_pos h1]
    have HDN' : Hid (∀ k, c.D k = false → dsum c.D X (k + 1) = dsum c.D X k) := fun k h1 => by conv => lhs; unfold dsum; rw [if_neg (by rw [h1]; simp)]
    obtain ⟨DS, hDS⟩ : ∃ DS : Nat → Rat, DS = fun k => dsum c.D X k := ⟨_, rfl⟩
    have HSD' : Hid (∀ k, k ≤ c.nd → Sz M (DS k)) := by rw [hDS]; exact HSD
    have HD0' : Hid (DS 0 = 0) := by rw [hDS]; exact HD0
    have HDY' : Hid (∀ k, c.D k = true → DS (k + 1) = DS k + X k) := by rw [hDS]; exact HDY
    have HDN2 : Hid (∀ k, c.D k = false → DS (k + 1) = DS k) := by rw [hDS]; exact HDN'
    have hE : dsum c.D X c.nd = DS c.nd := by rw [hDS]
    rw [hE]
    have HDN := Lib.hid (fun W hb s hs => h.ch.dn_later (W := W) hb (s := s) hs)
    have HV := Lib.hid hVc
    have hML : 400 ≤ M ∧ M ≤ 1000000000 := by omega
    obtain ⟨bd, od, rfl, hbd, -⟩ := HDN.out w (Below.refl _ _) 0 (by omega)
    have hd0 := fun W (hb : Below w.heap.size w W) s (hs : s < c.nd) => (by
      obtain ⟨b, o, e, -, p⟩ := HDN.out W hb s hs
      cases e
      exact p : W.cell? ⟨bd, od + s, none⟩ = some (.bool (c.D s)))
    have HD := Lib.hid hd0
    rw [hst] at K1 HPB HPC hW0z HR0 HAL0 ⊢
    clear h hC hB h0 hv0 ok hst hV hfz hVc hX hM b5 hDS hE HSD HD0 HDY HDN' HDN hd0
    go_enter Tryz.func31, Tryz.ntmps31
    (go_wp2_with fail; (with_reducible refine (K1.out _ (by (skip); repeat' (first | (with_reducible exact Below.refl _ _) | (with_reducible assumption) | (with_reducible refine Below.alloc ?_ ?_ _) | (with_reducible refine Below.drew ?_) | (with_reducible refine below_drewN ?_ _) | (with_reducible refine Below.setCell ?_ ?_ _) | (with_reducible refine Below.trans ?_ (Below.mono (by with_reducible assumption) ?_)) | omega | (simp only [ZA, ZS, ZD, ZN]; omega) | go_size))).mono ?_); rintro e w1 ⟨rfl, hb1⟩; have hb1z := Below.size hb1; (try simp only [ZA, ZS, ZD, ZN] at hb1z))
    have hz1 := hb1.size
    simp only [World.size_alloc] at hz1
    have HB1 := Lib.hid (HAL0.out.trans (hb1.mono (by simp)))
    have HVR := Lib.hid (HR0.out.below hb1)
    clear hb1 HR0 HAL0
    generalize w.alloc (.cells #[.int .i64 (c.nd : Int), .int .i64 c.sr, .slice AM c.nm cm, .slice (some ⟨bd, od, none⟩) c.nd cd] 25) = W0 at *
    have hrz : w.heap.size + 1 < w1.heap.size := HVR.out.2.2.1
    go_wp2
    go_loopw [19] (fun i wr => ∃ k : Nat, k ≤ c.nd ∧ i = .int .i64 (k : Int) ∧ VarR w1.heap.size (DS k) wr ∧ Below w1.heap.size w1 wr) (fun i _ => c.nd - (intOf i).toNat)
    case atStart => exact ⟨0, Nat.zero_le _, rfl, by rw [HD0'.out]; exact VarR.new w1, (Below.refl _ _).alloc (Nat.le_refl _) _⟩
    case round =>
      obtain ⟨k, hk, rfl, vS, hb⟩ := hrel
      have hz := hb.size
      have hbr : Below (w.heap.size + 1) W0 wr := HB1.out.trans (hb.mono (by omega))
      have hbw := HPB.out _ hbr
      have hvz := vS.2.2.1
      by_cases hlt : k < c.nd
      · obtain ⟨-, -, -, y3⟩ := HPC.out _ hbr
        obtain ⟨bx, ox, s2, A2, n2, c2, B2, m2, d2, rfl, hbx, v0, v1, v2, rf2⟩ := HV.out.at_ hlt
        have e0 := (hbw.cell (lt_of_cell v0)).trans v0
        have e1 := (hbw.cell (lt_of_cell v1)).trans v1
        have e2 := (hbw.cell (lt_of_cell v2)).trans v2
        have hdk := HD.out wr hbw _ hlt
        have qx := ((show RdS w _ _ (canR (X k)) from rf2).kp (Kp.of_below hbw)).canQ (HXS.out k)
        have hDY := HDY'.out k
        have hDN := HDN2.out k
        have hSk := HSD'.out k hk
        have HVS := Lib.hid vS
        have HB := Lib.hid hb
        have hki : (k : Int) < (c.nd : Int) := by omega
        have hk0 : (0 : Int) ≤ (k : Int) := by omega
        have hbd9 : bd < wr.heap.size := by have := hbw.size; omega
        have hw9 : w.heap.size < wr.heap.size := by omega
        have hal : Below wr.heap.size wr (wr.alloc (.cells #[.bool s2, .slice A2 n2 c2, .slice B2 m2 d2] 30)) := (Below.refl _ _).alloc (Nat.le_refl _) _
        have HAL := Lib.hid hal
        have HQX := Lib.hid qx
        clear v0 v1 v2 rf2 vS hb hal qx
        (have ogc := fun o i => below_at ((Below.refl wr.heap.size wr).alloc (Nat.le_refl _) o) (w.heap.size) i (by omega)); (have ogf := fun o i => below_fr ((Below.refl wr.heap.size wr).alloc (Nat.le_refl _) o) (w.heap.size) i (by omega))
        (have ovdc := fun o i => below_at ((Below.refl wr.heap.size wr).alloc (Nat.le_refl _) o) (bd) i (by omega)); (have ovdf := fun o i => below_fr ((Below.refl wr.heap.size wr).alloc (Nat.le_refl _) o) (bd) i (by omega))
        cases hDk : c.D k
        · rw [hDk] at hdk
          have HE := Lib.hid (hDN hDk)
          clear hDk hDY hDN
          go_wp2
          go_roundw
          case rel => exact ⟨k + 1, by omega, by go_num, by rw [HE.out]; exact HVS.out.below HAL.out, HB.out.trans (HAL.out.mono (by omega))⟩
          case measure => simp [intOf]; omega
        · rw [hDk] at hdk
          have HE := Lib.hid (hDY hDk)
          clear hDk hDY hDN
          have vq := HVS.out.below HAL.out
          have HVQ := Lib.hid vq
          obtain ⟨⟨s8, A8, n8, c8, B8, m8, d8, o0, o1, o2, r0⟩, hRB, hgz, hgf⟩ := vq
          have qd := r0.canQ hSk
          have KA := Lib.hid (fun W (hb : Below (wr.alloc (.cells #[.bool s2, .slice A2 n2 c2, .slice B2 m2 d2] 30)).heap.size (wr.alloc (.cells #[.bool s2, .slice A2 n2 c2, .slice B2 m2 d2] 30)) W) => addQ (qd.below hb) (HQX.out.below (HAL.out.trans (hb.mono (by simp)))) (by omega) (by omega))
          clear r0 qd hRB
          (go_wp2_with fail; (with_reducible refine (KA.out _ (by (skip); repeat' (first | (with_reducible exact Below.refl _ _) | (with_reducible assumption) | (with_reducible refine Below.alloc ?_ ?_ _) | (with_reducible refine Below.drew ?_) | (with_reducible refine below_drewN ?_ _) | (with_reducible refine Below.setCell ?_ ?_ _) | (with_reducible refine Below.trans ?_ (Below.mono (by with_reducible assumption) ?_)) | omega | (simp only [ZA, ZS, ZD, ZN]; omega) | go_size))).mono ?_); rintro e w4 ⟨⟨v4, rfl, own4⟩, hb4⟩; have hb4z := Below.size hb4; (try simp only [ZA, ZS, ZD, ZN] at hb4z); have hb4c0 := fun o => below_at hb4 (w1.heap.size) o (by first | omega | (simp only [ZA, ZS, ZD, ZN]; omega)); have hb4f0 := fun o => below_fr hb4 (w1.heap.size) o (by first | omega | (simp only [ZA, ZS, ZD, ZN]; omega)))
          obtain ⟨s9, A9, n9, c9, B9, m9, d9, rfl⟩ := own4.form
          have hgf4 : ∀ i, w4.frozen? ⟨w1.heap.size, i, none⟩ = false := fun i => by rw [hb4f0]; exact hgf i
          have hVP := (HVQ.out.below hb4).put (own4.rs (b0 := 0))
          rw [← HE.out] at hVP
          have HVP := Lib.hid hVP
          have HBP := Lib.hid (below_set3 ((HB.out.trans (HAL.out.mono (by omega))).trans (hb4.mono (by simp; omega))) (Nat.le_refl _) (.bool s9) (.slice A9 n9 c9) (.slice B9 m9 d9))
          have p0 : w4.cell? ⟨w1.heap.size, 0, none⟩ = some (.bool s8) := by rw [hb4c0]; exact o0
          have p1 : w4.cell? ⟨w1.heap.size, 1, none⟩ = some (.slice A8 n8 c8) := by rw [hb4c0]; exact o1
          have p2 : w4.cell? ⟨w1.heap.size, 2, none⟩ = some (.slice B8 m8 d8) := by rw [hb4c0]; exact o2
          clear hVP hb4 hb4c0 hb4f0 own4 o0 o1 o2
          go_wp2
          go_roundw
          case rel => exact ⟨k + 1, by omega, by go_num, HVP.out, HBP.out⟩
          case measure => simp [intOf]; omega
      · have hkm : k = c.nd := by omega
        subst hkm
        have vr := HVR.out.below hb
        have HBW := Lib.hid hbw
        have HVS := Lib.hid vS
        have HVR2 := Lib.hid vr
        obtain ⟨⟨s8, A8, n8, c8, B8, m8, d8, o0, o1, o2, r0⟩, -, -, -⟩ := vS
        obtain ⟨⟨s7, A7, n7, c7, B7, m7, d7, p0, p1, p2, -⟩, -, hrz2, hrf⟩ := vr
        have hbf := below_set3 hbw (show w.heap.size ≤ w.heap.size + 1 by omega) (.bool s8) (.slice A8 n8 c8) (.slice B8 m8 d8)
        have s9 := set3 (w := wr) (g := w.heap.size + 1) (o := 0) (a := .bool s8) (b := .slice A8 n8 c8) (d := .slice B8 m8 d8) p0 p1 p2
        have hrs := r0.kp (Kp.store3 HVR2.out.2.1 (Nat.zero_le _) (.bool s8) (.slice A8 n8 c8) (.slice B8 m8 d8))
        have HRS := Lib.hid hrs
        have HBF := Lib.hid hbf
        clear r0 hbf hrs hb hbr hbw
        go_wp2
        obtain ⟨t0, t1, t2⟩ := s9
        refine bodyPost_ret (v := (.tuple #[rv s8 A8 n8 c8 B8 m8 d8, .nilIface])) (by simp [results, Tryz.results31, go_sem, t0, t1, t2]) rfl ?_
        exact ⟨ansQ_0 HRS.out, HBF.out⟩
  · have HV : Hid (c.dwnV n R = 0) := by show c.dwnV n R = 0; unfold Chn.dwnV; rw [if_neg hC]
    have HE := Lib.hid (errM_n hC)
    rw [errM_n hC] at K1
    obtain ⟨cc, hcc⟩ : ∃ cc, cc = c.codeCe n R := ⟨_, rfl⟩
    rw [← hcc] at K1 HE ⊢
    clear h hC hcc
    go_enter Tryz.func31, Tryz.ntmps31
    (go_wp2_with fail; (with_reducible refine (K1.out _ (by (skip); repeat' (first | (with_reducible exact Below.refl _ _) | (with_reducible assumption) | (with_reducible refine Below.alloc ?_ ?_ _) | (with_reducible refine Below.drew ?_) | (with_reducible refine below_drewN ?_ _) | (with_reducible refine Below.setCell ?_ ?_ _) | (with_reducible refine Below.trans ?_ (Below.mono (by with_reducible assumption) ?_)) | omega | (simp only [ZA, ZS, ZD, ZN]; omega) | go_size))).mono ?_); rintro e w1 ⟨rfl, hb1⟩; have hb1z := Below.size hb1; (try simp only [ZA, ZS, ZD, ZN] at hb1z); have hb1c0 := fun o => below_at hb1 (w.heap.size) o (by first | omega | (simp only [ZA, ZS, ZD, ZN]; omega)); have hb1f0 := fun o => below_fr hb1 (w.heap.size) o (by first | omega | (simp only [ZA, ZS, ZD, ZN]; omega)); have hb1c1 := fun o => below_at hb1 (w.heap.size + 1) o (by first | omega | (simp only [ZA, ZS, ZD, ZN]; omega)); have hb1f1 := fun o => below_fr hb1 (w.heap.size + 1) o (by first | omega | (simp only [ZA, ZS, ZD, ZN]; omega)))
    go_wp2
    refine bodyPost_ret (v := (.tuple #[zr, .iface 41 (.int .i64 cc)])) (by simp [results, Tryz.results31, go_sem, hb1c1]) rfl ?_
    have hb9 : Below w.heap.size w w1 := (by have z0 := Below.size hb1; (try simp only [ZA, ZS, ZD, ZN] at z0 ⊢; skip); repeat' (first | (with_reducible exact Below.refl _ _) | (with_reducible assumption) | (with_reducible refine Below.alloc ?_ ?_ _) | (with_reducible refine Below.drew ?_) | (with_reducible refine below_drewN ?_ _) | (with_reducible refine Below.setCell ?_ ?_ _) | (with_reducible refine Below.trans ?_ (Below.mono (by with_reducible assumption) ?_)) | omega | (simp only [ZA, ZS, ZD, ZN]; omega) | go_size))
    exact ⟨by rw [HV.out]; exact ansQ_n HE.out, ((hb9.setCell (p := ⟨w.heap.size + 1, 0, none⟩) (by show _ ≤ w.heap.size + 1; omega) _).setCell (p := ⟨w.heap.size + 1, 1, none⟩) (by show _ ≤ w.heap.size + 1; omega) _).setCell (p := ⟨w.heap.size + 1, 2, none⟩) (by show _ ≤ w.heap.size + 1; omega) _⟩
/-- Balanced -/
theorem Balanced_any {w : World} {AM AD AV : Option Addr} {cm cd n ca : Nat} {c : Chn} {R : Nat → Rw} (h : DistS w AM cm AD cd c AV n R) :
    Calls Tryz.prog 27 #[cv c.st c.sr AM c.nm cm AD c.nd cd, .slice AV n ca] w fun e w' => e = .returned (.tuple #[.bool (c.balV n R), errM (c.codeB n R)]) ∧ Below w.heap.size w w' := by
  have K1 := Lib.hid (fun W (hb : Below w.heap.size w W) => scheck_any (ca := ca) (h.below hb).ch h.sm.ch (h.below hb).v h.big h.n6)
  have HPB := Lib.hid (fun W hb => par_below (W := W) (w := w) (o := .cells #[.int .i64 c.st, .int .i64 c.sr, .slice AM c.nm cm, .slice AD c.nd cd] 25) hb)
  have hW0z : (w.alloc (.cells #[.int .i64 c.st, .int .i64 c.sr, .slice AM c.nm cm, .slice AD c.nd cd] 25)).heap.size = w.heap.size + 1 := by simp
  by_cases hB : c.codeB n R = 0
  · have K2 := Lib.hid (fun W (hb : Below w.heap.size w W) => balS_any (ca := ca) (h.below hb) hB)
    have HX : Hid (c.balV n R = c.balB (vecQ n R)) := by show c.balV n R = _; unfold Chn.balV; rw [if_pos hB]
    rw [hB, errM_0] at K1
    rw [hB, errM_0, HX.out]
    obtain ⟨bb, hbb⟩ : ∃ bb, bb = c.balB (vecQ n R) := ⟨_, rfl⟩
    rw [← hbb] at K2 ⊢
    clear h hB hbb HX
    go_enter Tryz.func27, Tryz.ntmps27
    (go_wp2_with fail; (with_reducible refine (K1.out _ (by (skip); repeat' (first | (with_reducible exact Below.refl _ _) | (with_reducible assumption) | (with_reducible refine Below.alloc ?_ ?_ _) | (with_reducible refine Below.drew ?_) | (with_reducible refine below_drewN ?_ _) | (with_reducible refine Below.setCell ?_ ?_ _) | (with_reducible refine Below.trans ?_ (Below.mono (by with_reducible assumption) ?_)) | omega | (simp only [ZA, ZS, ZD, ZN]; omega) | go_size))).mono ?_); rintro e w1 ⟨rfl, hb1⟩; have hb1z := Below.size hb1; (try simp only [ZA, ZS, ZD, ZN] at hb1z); have hb1c0 := fun o => below_at hb1 (w.heap.size) o (by first | omega | (simp only [ZA, ZS, ZD, ZN]; omega)); have hb1f0 := fun o => below_fr hb1 (w.heap.size) o (by first | omega | (simp only [ZA, ZS, ZD, ZN]; omega)))
    have hB1 := HPB.out w1 (by rw [← hW0z]; exact hb1)
    (go_wp2_with fail; (with_reducible refine (K2.out _ hB1).mono ?_); rintro e w2 ⟨rfl, hb2⟩; have hb2z := Below.size hb2; (try simp only [ZA, ZS, ZD, ZN] at hb2z))
    go_wp2
    go_ret2
    exact ⟨rfl, hB1.trans (hb2.mono hB1.size)⟩
  · have HX : Hid (c.balV n R = false) := by show c.balV n R = _; unfold Chn.balV; rw [if_neg hB]
    rw [errM_n hB] at K1
    rw [errM_n hB, HX.out]
    clear h hB HX
    go_enter Tryz.func27, Tryz.ntmps27
    (go_wp2_with fail; (with_reducible refine (K1.out _ (by (skip); repeat' (first | (with_reducible exact Below.refl _ _) | (with_reducible assumption) | (with_reducible refine Below.alloc ?_ ?_ _) | (with_reducible refine Below.drew ?_) | (with_reducible refine below_drewN ?_ _) | (with_reducible refine Below.setCell ?_ ?_ _) | (with_reducible refine Below.trans ?_ (Below.mono (by with_reducible assumption) ?_)) | omega | (simp only [ZA, ZS, ZD, ZN]; omega) | go_size))).mono ?_); rintro e w1 ⟨rfl, hb1⟩; have hb1z := Below.size hb1; (try simp only [ZA, ZS, ZD, ZN] at hb1z); have hb1c0 := fun o => below_at hb1 (w.heap.size) o (by first | omega | (simp only [ZA, ZS, ZD, ZN]; omega)); have hb1f0 := fun o => below_fr hb1 (w.heap.size) o (by first | omega | (simp only [ZA, ZS, ZD, ZN]; omega)))
    have hB1 := HPB.out w1 (by rw [← hW0z]; exact hb1)
    go_wp2
    go_ret2
    exact ⟨rfl, hB1⟩
end Go.Proofs.YtmebdlilbnadgaaGreatDoor
