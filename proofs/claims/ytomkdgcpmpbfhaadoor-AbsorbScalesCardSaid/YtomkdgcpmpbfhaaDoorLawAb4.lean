/- Contracts of functions and lemmas, used by the proofs of the given statements. No condition beyond those that each lemma names. -/
import Derived.Test.YtomkdgcpmpbfhaaDoorAcS
import Derived.Test.YtomkdgcpmpbfhaaDoorAbE
import Derived.Test.YtomkdgcpmpbfhaaDoorAcB
import Derived.Test.YtomkdgcpmpbfhaaDoorAbL
namespace Go.Proofs.YtomkdgcpmpbfhaaDoor
open Go.RowKit
set_option linter.unusedSimpArgs false
set_option linter.unusedVariables false
set_option maxRecDepth 20000
attribute [local irreducible] nv wp win plainB validR valR canR mvE chkM codeC spr sprN chg cnt cntB ixB kept sysK plB parM outK gj sumN
/-! ## AbsorbSums -/
theorem FzL.sums {L : Nat} {v : Nat → Rat} (hv : FzL L v) {k : Nat} (hk : k ≤ 4294967295) : Sz (L + 1) (sumN v k) := by
  obtain ⟨D, Z, h0, h1, h2, h3⟩ := hv
  refine (sumN_fz h3 k).sz h0 (by omega) (lt_wp_more h1 (by omega)) ?_
  have := wp_mul_lt (L := 1) (show k < wp 1 by rw [wp_one]; omega) h2
  rw [Nat.add_comm]; exact this
theorem Chn.visits_ge {c : Chn} (h : c.codeA = 0) (s : Nat) : 0 ≤ c.visits s := (Chn.abS h).solC_nonneg (fun s => by split <;> decide) s
theorem Chn.ends_ge {c : Chn} (h : c.codeA = 0) (s : Nat) : 0 ≤ c.ends s := (Chn.abS h).ends_pos
theorem Chn.ends_0 {c : Chn} {s : Nat} (hd : c.D s = false) : c.ends s = 0 := ends_up hd
theorem Chn.visits_0 {c : Chn} {s : Nat} (hd : c.D s = true) : c.visits s = 0 := solC_off _ (by
  cases h : c.lv s
  · rfl
  · have := c.lv_ld s h; rw [hd] at this; cases this)
theorem Chn.visits_sum {c : Chn} (h : c.codeA = 0) : sumN c.visits c.nd = c.times c.sr.toNat := (Chn.abS h).visits_sum (Chn.sr_lt (Chn.codeA_ok h))
theorem Chn.ends_sum {c : Chn} (h : c.codeA = 0) : sumN c.ends c.nd = 1 := (Chn.abS h).ends_sum (Chn.sr_lt (Chn.codeA_ok h)) Chn.lv_start
theorem sgn_ge {q : Rat} (h : 0 ≤ q) : ∃ z : Int, sgnQ q = z ∧ decide (z < 0) = false := by
  by_cases h0 : q = 0
  · rw [h0]; exact ⟨0, rfl, by decide⟩
  · exact ⟨1, sgn_pos (Rat.lt_of_le_of_ne h (Ne.symm h0)), by decide⟩
set_option maxHeartbeats 16000000 in
theorem absorbSums_law {w : World} {AM AD : Option Addr} {cm cd : Nat} {c : Chn} (h : ChI w w.heap.size AM cm AD cd c) :
    Calls Tryd.prog 3 #[cv c.st c.sr AM c.nm cm AD c.nd cd] w fun e w' => e = .returned (.bool true) ∧ Below w.heap.size w w' := by
  have KF := Lib.hid (fun W (hb : Below w.heap.size w W) => valid54_any (h.below hb))
  have hbA : Below w.heap.size w (w.alloc (.cells #[.int .i64 c.st, .int .i64 c.sr, .slice AM c.nm cm, .slice AD c.nd cd] 25)) := (Below.refl _ _).alloc (Nat.le_refl _) _
  have HBA := Lib.hid hbA
  have HI := Lib.hid h
  clear h hbA
  go_enter Tryd.func3, Tryd.ntmps3
  (go_wp2_with fail; (with_reducible refine (KF.out _ HBA.out).mono ?_); rintro e w1 ⟨⟨bb, rfl, hbb⟩, hb1⟩; have hb1z := Below.size hb1; (try simp only [World.size_alloc, World.size_setCell, World.size_drew, size_drewN'] at hb1z); have hb1c0 := fun o => below_at hb1 (w.heap.size) o (by first | omega | (simp only [World.size_alloc, World.size_setCell, World.size_drew, size_drewN']; omega)); have hb1f0 := fun o => below_fr hb1 (w.heap.size) o (by first | omega | (simp only [World.size_alloc, World.size_setCell, World.size_drew, size_drewN']; omega)))
  have hB1 : Below w.heap.size w w1 := HBA.out.trans (hb1.mono (by simp))
  cases bb with
  | false =>
    clear hbb
    (go_wp2_with fail; (with_reducible refine (awake4_any _).mono ?_); rintro e w2 ⟨rfl, hb2⟩; have hb2z := Below.size hb2; (try simp only [World.size_alloc, World.size_setCell, World.size_drew, size_drewN'] at hb2z))
    go_wp2
    go_ret
    exact ⟨rfl, hB1.trans (hb2.mono hB1.size)⟩
  | true =>
    have HF := Lib.hid (hbb rfl)
    clear hbb
    have hw1 : w.heap.size < w1.heap.size := by have := hb1.size; simp at this; omega
    have hS := HF.out.1.small HI.out
    have h0 := HF.out.2
    have ok := Chn.codeA_ok h0
    have hst := ok.st
    have hn9 := hS.nd ok
    have K3 : Hid (∀ W, Below w.heap.size w W → Calls Tryd.prog 7 #[cv c.st c.sr AM c.nm cm AD c.nd cd] W fun e w' => (∃ A d, e = .returned (.tuple #[.slice A c.nd d, .nilIface]) ∧ RowA w' w'.heap.size A c.nd (can c.times)) ∧ Below W.heap.size W w') := fun W hb => (Times_any (HI.out.below hb) hS.sysS).mono fun e w' h => ⟨by have := h.1; rw [h0, outN_0] at this; obtain ⟨A, d, e1, r⟩ := this; rw [errM_0] at e1; exact ⟨A, d, e1, r⟩, h.2⟩
    have K4 : Hid (∀ W, Below w.heap.size w W → Calls Tryd.prog 8 #[cv c.st c.sr AM c.nm cm AD c.nd cd] W fun e w' => (∃ A d, e = .returned (.tuple #[.slice A c.nd d, .nilIface]) ∧ RowA w' w'.heap.size A c.nd (can c.visits)) ∧ Below W.heap.size W w') := fun W hb => (Visits_any (HI.out.below hb) hS.sysS).mono fun e w' h => ⟨by have := h.1; rw [h0, outN_0] at this; obtain ⟨A, d, e1, r⟩ := this; rw [errM_0] at e1; exact ⟨A, d, e1, r⟩, h.2⟩
    have K5 : Hid (∀ W, Below w.heap.size w W → Calls Tryd.prog 9 #[cv c.st c.sr AM c.nm cm AD c.nd cd] W fun e w' => (∃ A d, e = .returned (.tuple #[.slice A c.nd d, .nilIface]) ∧ RowA w' w'.heap.size A c.nd (can c.ends)) ∧ Below W.heap.size W w') := fun W hb => (Ends_any (HI.out.below hb) hS).mono fun e w' h => ⟨by have := h.1; rw [h0, outN_0] at this; obtain ⟨A, d, e1, r⟩ := this; rw [errM_0] at e1; exact ⟨A, d, e1, r⟩, h.2⟩
    obtain ⟨M, hM⟩ : ∃ M, M = 220000100 := ⟨_, rfl⟩
    have hFT : FzL (M - 50) c.times := (hS.sol_fz h0 false : FzL 220000000 c.times).more (by omega)
    have hFV : FzL (M - 50) c.visits := (hS.sol_fz h0 true : FzL 220000000 c.visits).more (by omega)
    have hFE : FzL (M - 50) c.ends := ((hS.sol_fz h0 true).endK (F := c.f) (T := c.t) (B := fun k => c.lv (c.f k) && c.D (c.t k)) (hS.rts ok) c.end01 c.nm (Nat.le_refl _)).more (by omega)
    have hM2 : 100 ≤ M ∧ M ≤ 1000000000 := by omega
    have HST : Hid (∀ s, Sz M (c.times s)) := fun s => (hFT.sz (by omega) s).more (by omega)
    have HSV : Hid (∀ s, Sz M (c.visits s)) := fun s => (hFV.sz (by omega) s).more (by omega)
    have HSE : Hid (∀ s, Sz M (c.ends s)) := fun s => (hFE.sz (by omega) s).more (by omega)
    have HUV : Hid (∀ k, k ≤ c.nd → Sz M (sumN c.visits k)) := fun k hk => (hFV.sums (by omega)).more (by omega)
    have HUE : Hid (∀ k, k ≤ c.nd → Sz M (sumN c.ends k)) := fun k hk => (hFE.sums (by omega)).more (by omega)
    have HV0 : Hid (∀ s, c.D s = true → c.visits s = 0) := fun s h => Chn.visits_0 h
    have HE0 : Hid (∀ s, c.D s = false → c.ends s = 0) := fun s h => Chn.ends_0 h
    have HVG : Hid (∀ s, 0 ≤ c.visits s) := Chn.visits_ge h0
    have HEG : Hid (∀ s, 0 ≤ c.ends s) := Chn.ends_ge h0
    have HVS : Hid (sumN c.visits c.nd = c.times c.sr.toNat) := Chn.visits_sum h0
    have HES : Hid (sumN c.ends c.nd = 1) := Chn.ends_sum h0
    obtain ⟨sr, hsr⟩ : ∃ sr : Nat, c.sr = (sr : Int) := ⟨c.sr.toNat, by have := ok.s0; omega⟩
    have hsn : sr < c.nd := by have := ok.s1; omega
    rw [hsr, Int.toNat_natCast] at HVS
    have HSR := Lib.hid hsr
    have HDN := Lib.hid (fun W hb s hs => HI.out.dn_later (W := W) hb (s := s) hs)
    obtain ⟨XT, hXT⟩ : ∃ XT, XT = c.times := ⟨_, rfl⟩
    obtain ⟨XV, hXV⟩ : ∃ XV, XV = c.visits := ⟨_, rfl⟩
    obtain ⟨XE, hXE⟩ : ∃ XE, XE = c.ends := ⟨_, rfl⟩
    rw [← hXT] at K3 HST HVS
    rw [← hXV] at K4 HSV HUV HV0 HVG HVS
    rw [← hXE] at K5 HSE HUE HE0 HEG HES
    have KL := Lib.hid (fun W A b0 ca (hA : RowA W b0 A c.nd (can XE)) => sum54_any (c := ca) hA HUE.out (fun k _ => HSE.out k) (by omega) hM2.2 (by omega))
    have KV := Lib.hid (fun W A b0 ca (hA : RowA W b0 A c.nd (can XV)) => sum54_any (c := ca) hA HUV.out (fun k _ => HSV.out k) (by omega) hM2.2 (by omega))
    have e1 : ((c.nd : Int) != c.st) = false := by rw [hst]; simp
    clear hsr hXT hXV hXE hFT hFV hFE hst ok h0 hS HF HI KF HBA hM
    (go_wp2_with fail; (with_reducible refine (awake4_any _).mono ?_); rintro e w3 ⟨rfl, hb3⟩; have hb3z := Below.size hb3; (try simp only [World.size_alloc, World.size_setCell, World.size_drew, size_drewN'] at hb3z); have hb3c0 := fun o => below_at hb3 (w.heap.size) o (by first | omega | (simp only [World.size_alloc, World.size_setCell, World.size_drew, size_drewN']; omega)); have hb3f0 := fun o => below_fr hb3 (w.heap.size) o (by first | omega | (simp only [World.size_alloc, World.size_setCell, World.size_drew, size_drewN']; omega)))
    have hB3 : Below w.heap.size w w3 := hB1.trans (hb3.mono hB1.size)
    (go_wp2_with fail; (with_reducible refine (K3.out _ hB3).mono ?_); rintro e w4 ⟨⟨A4, c4, rfl, r4⟩, hb4⟩; have hb4z := Below.size hb4; (try simp only [World.size_alloc, World.size_setCell, World.size_drew, size_drewN'] at hb4z); have hb4c0 := fun o => below_at hb4 (w.heap.size) o (by first | omega | (simp only [World.size_alloc, World.size_setCell, World.size_drew, size_drewN']; omega)); have hb4f0 := fun o => below_fr hb4 (w.heap.size) o (by first | omega | (simp only [World.size_alloc, World.size_setCell, World.size_drew, size_drewN']; omega)))
    have hB4 : Below w.heap.size w w4 := hB3.trans (hb4.mono hB3.size)
    (go_wp2_with fail; (with_reducible refine (K4.out _ hB4).mono ?_); rintro e w5 ⟨⟨A5, c5, rfl, r5⟩, hb5⟩; have hb5z := Below.size hb5; (try simp only [World.size_alloc, World.size_setCell, World.size_drew, size_drewN'] at hb5z); have hb5c0 := fun o => below_at hb5 (w.heap.size) o (by first | omega | (simp only [World.size_alloc, World.size_setCell, World.size_drew, size_drewN']; omega)); have hb5f0 := fun o => below_fr hb5 (w.heap.size) o (by first | omega | (simp only [World.size_alloc, World.size_setCell, World.size_drew, size_drewN']; omega)))
    have hB5 : Below w.heap.size w w5 := hB4.trans (hb5.mono hB4.size)
    (go_wp2_with fail; (with_reducible refine (K5.out _ hB5).mono ?_); rintro e w6 ⟨⟨A6, c6, rfl, r6⟩, hb6⟩; have hb6z := Below.size hb6; (try simp only [World.size_alloc, World.size_setCell, World.size_drew, size_drewN'] at hb6z); have hb6c0 := fun o => below_at hb6 (w.heap.size) o (by first | omega | (simp only [World.size_alloc, World.size_setCell, World.size_drew, size_drewN']; omega)); have hb6f0 := fun o => below_fr hb6 (w.heap.size) o (by first | omega | (simp only [World.size_alloc, World.size_setCell, World.size_drew, size_drewN']; omega)))
    have hB6 : Below w.heap.size w w6 := hB5.trans (hb6.mono hB5.size)
    have RT := Lib.hid ((r4.below hb5).below hb6)
    have RV := Lib.hid (r5.below hb6)
    have RE := Lib.hid r6
    have HB6 := Lib.hid hb6
    have hz6 : w.heap.size < w6.heap.size := by have := hb1.size; have := hb3.size; have := hb4.size; have := hb5.size; have := hb6.size; omega
    have y0 : ∀ i, w6.cell? ⟨w.heap.size, i, none⟩ = (w.alloc (.cells #[.int .i64 c.st, .int .i64 c.sr, .slice AM c.nm cm, .slice AD c.nd cd] 25)).cell? ⟨w.heap.size, i, none⟩ := fun i => by rw [hb6c0, hb5c0, hb4c0, hb3c0, hb1c0]
    have u0 : w6.cell? ⟨w.heap.size, 0, none⟩ = some (.int .i64 c.st) := by rw [y0]; simp
    have u1 : w6.cell? ⟨w.heap.size, 1, none⟩ = some (.int .i64 (sr : Int)) := by rw [y0, HSR.out]; simp
    have u3 : w6.cell? ⟨w.heap.size, 3, none⟩ = some (.slice AD c.nd cd) := by rw [y0]; simp
    have HB6W := Lib.hid hB6
    have hstI : c.st = (c.nd : Int) := by have := bne_eq_false_iff_eq.1 e1; omega
    clear r4 r5 r6 K3 K4 K5 y0 hb1 hb3 hb4 hb5 hb6 hb1c0 hb3c0 hb4c0 hb5c0 hb6c0 hb1f0 hb3f0 hb4f0 hb5f0 hb6f0 hB1 hB3 hB4 hB5 hB6
    go_wp2
    go_loopw [66] (fun i wr => ∃ k : Nat, k ≤ c.nd ∧ i = .int .i64 (k : Int) ∧ Below w6.heap.size w6 wr) (fun i _ => c.nd - (intOf i).toNat)
    case atStart => exact ⟨0, Nat.zero_le _, rfl, Below.refl _ _⟩
    case round =>
      obtain ⟨k, hk, rfl, hb⟩ := hrel
      have hzr := hb.size
      by_cases hlt : k < c.nd
      · have hbW : Below w.heap.size w wr := HB6W.out.trans (hb.mono (by omega))
        obtain ⟨bv, ov, sv, Av, nv', cv', Bv, mv', dv, rfl, hbv, p0, p1, p2, rv'⟩ := RV.out.at_ hlt
        obtain ⟨be, oe, se, Ae, ne', ce', Be, me', de, rfl, hbe, q0, q1, q2, re'⟩ := RE.out.at_ hlt
        obtain ⟨bd, od, rfl, hbd, dd⟩ := HDN.out wr hbW k hlt
        have x0 := (hb.cell (lt_of_cell p0)).trans p0
        have x1 := (hb.cell (lt_of_cell p1)).trans p1
        have x2 := (hb.cell (lt_of_cell p2)).trans p2
        have y0 := (hb.cell (lt_of_cell q0)).trans q0
        have y1 := (hb.cell (lt_of_cell q1)).trans q1
        have y2 := (hb.cell (lt_of_cell q2)).trans q2
        have t3 := (hb.cell (p := ⟨w.heap.size, 3, none⟩) hz6).trans u3
        have qv := (rv'.kp (Kp.of_below hb)).canQ (HSV.out k)
        have qe := (re'.kp (Kp.of_below hb)).canQ (HSE.out k)
        have hki : (k : Int) < (c.nd : Int) := by omega
        have hk0 : (0 : Int) ≤ (k : Int) := by omega
        have hbd2 : bd < wr.heap.size := by have := hbW.size; omega
        have hbv2 : bv < wr.heap.size := by omega
        have hbe2 : be < wr.heap.size := by omega
        have hwr2 : w.heap.size < wr.heap.size := by omega
        have HB := Lib.hid hb
        have KSV := Lib.hid (fun W z (hb : Below wr.heap.size wr W) (hz : sgnQ (XV k) = z) => hz ▸ signQ (qv.below hb) (by omega) (by omega))
        have KSE := Lib.hid (fun W z (hb : Below wr.heap.size wr W) (hz : sgnQ (XE k) = z) => hz ▸ signQ (qe.below hb) (by omega) (by omega))
        obtain ⟨zv, hzv, ezv⟩ := sgn_ge (HVG.out k)
        obtain ⟨ze, hze, eze⟩ := sgn_ge (HEG.out k)
        clear p0 p1 p2 q0 q1 q2 rv' re' qv qe hb hbW
        cases hD : c.D k
        · rw [hD] at dd
          have hz0 : ze = 0 := by rw [← hze, HE0.out k hD]; rfl
          subst hz0
          have K1 := Lib.hid (fun W hb => KSV.out W zv hb hzv)
          have K2 := Lib.hid (fun W hb => KSE.out W 0 hb hze)
          clear hD hzv hze KSV KSE
          (go_wp2_with fail; (with_reducible refine (K1.out _ (Below.refl _ _)).mono ?_); rintro e w7 ⟨rfl, hb7⟩; have hb7z := Below.size hb7; (try simp only [World.size_alloc, World.size_setCell, World.size_drew, size_drewN'] at hb7z); have hb7c0 := fun o => below_at hb7 (be) o (by first | omega | (simp only [World.size_alloc, World.size_setCell, World.size_drew, size_drewN']; omega)); have hb7f0 := fun o => below_fr hb7 (be) o (by first | omega | (simp only [World.size_alloc, World.size_setCell, World.size_drew, size_drewN']; omega)); have hb7c1 := fun o => below_at hb7 (bd) o (by first | omega | (simp only [World.size_alloc, World.size_setCell, World.size_drew, size_drewN']; omega)); have hb7f1 := fun o => below_fr hb7 (bd) o (by first | omega | (simp only [World.size_alloc, World.size_setCell, World.size_drew, size_drewN']; omega)); have hb7c2 := fun o => below_at hb7 (w.heap.size) o (by first | omega | (simp only [World.size_alloc, World.size_setCell, World.size_drew, size_drewN']; omega)); have hb7f2 := fun o => below_fr hb7 (w.heap.size) o (by first | omega | (simp only [World.size_alloc, World.size_setCell, World.size_drew, size_drewN']; omega)))
          (go_wp2_with fail; (with_reducible refine (K2.out _ (by have z0 := Below.size hb7; (try simp only [World.size_alloc, World.size_setCell, World.size_drew, size_drewN'] at z0 ⊢; skip); repeat' (first | (with_reducible exact Below.refl _ _) | (with_reducible assumption) | (with_reducible refine Below.alloc ?_ ?_ _) | (with_reducible refine Below.drew ?_) | (with_reducible refine below_drewN ?_ _) | (with_reducible refine Below.setCell ?_ ?_ _) | (with_reducible refine Below.trans ?_ (Below.mono (by with_reducible assumption) ?_)) | omega | (simp only [World.size_alloc, World.size_setCell, World.size_drew, size_drewN']; omega) | go_size))).mono ?_); rintro e w8 ⟨rfl, hb8⟩; have hb8z := Below.size hb8; (try simp only [World.size_alloc, World.size_setCell, World.size_drew, size_drewN'] at hb8z); have hb8c0 := fun o => below_at hb8 (be) o (by first | omega | (simp only [World.size_alloc, World.size_setCell, World.size_drew, size_drewN']; omega)); have hb8f0 := fun o => below_fr hb8 (be) o (by first | omega | (simp only [World.size_alloc, World.size_setCell, World.size_drew, size_drewN']; omega)); have hb8c1 := fun o => below_at hb8 (bd) o (by first | omega | (simp only [World.size_alloc, World.size_setCell, World.size_drew, size_drewN']; omega)); have hb8f1 := fun o => below_fr hb8 (bd) o (by first | omega | (simp only [World.size_alloc, World.size_setCell, World.size_drew, size_drewN']; omega)); have hb8c2 := fun o => below_at hb8 (w.heap.size) o (by first | omega | (simp only [World.size_alloc, World.size_setCell, World.size_drew, size_drewN']; omega)); have hb8f2 := fun o => below_fr hb8 (w.heap.size) o (by first | omega | (simp only [World.size_alloc, World.size_setCell, World.size_drew, size_drewN']; omega)))
          (go_wp2_with fail; (with_reducible refine (K2.out _ (by have z0 := Below.size hb7; have z1 := Below.size hb8; (try simp only [World.size_alloc, World.size_setCell, World.size_drew, size_drewN'] at z0 z1 ⊢; skip); repeat' (first | (with_reducible exact Below.refl _ _) | (with_reducible assumption) | (with_reducible refine Below.alloc ?_ ?_ _) | (with_reducible refine Below.drew ?_) | (with_reducible refine below_drewN ?_ _) | (with_reducible refine Below.setCell ?_ ?_ _) | (with_reducible refine Below.trans ?_ (Below.mono (by with_reducible assumption) ?_)) | omega | (simp only [World.size_alloc, World.size_setCell, World.size_drew, size_drewN']; omega) | go_size))).mono ?_); rintro e w9 ⟨rfl, hb9⟩; have hb9z := Below.size hb9; (try simp only [World.size_alloc, World.size_setCell, World.size_drew, size_drewN'] at hb9z); have hb9c0 := fun o => below_at hb9 (bd) o (by first | omega | (simp only [World.size_alloc, World.size_setCell, World.size_drew, size_drewN']; omega)); have hb9f0 := fun o => below_fr hb9 (bd) o (by first | omega | (simp only [World.size_alloc, World.size_setCell, World.size_drew, size_drewN']; omega)); have hb9c1 := fun o => below_at hb9 (w.heap.size) o (by first | omega | (simp only [World.size_alloc, World.size_setCell, World.size_drew, size_drewN']; omega)); have hb9f1 := fun o => below_fr hb9 (w.heap.size) o (by first | omega | (simp only [World.size_alloc, World.size_setCell, World.size_drew, size_drewN']; omega)))
          have HB9 := Lib.hid (HB.out.trans (((by have z0 := Below.size hb7; have z1 := Below.size hb8; have z2 := Below.size hb9; (try simp only [World.size_alloc, World.size_setCell, World.size_drew, size_drewN'] at z0 z1 z2 ⊢; skip); repeat' (first | (with_reducible exact Below.refl _ _) | (with_reducible assumption) | (with_reducible refine Below.alloc ?_ ?_ _) | (with_reducible refine Below.drew ?_) | (with_reducible refine below_drewN ?_ _) | (with_reducible refine Below.setCell ?_ ?_ _) | (with_reducible refine Below.trans ?_ (Below.mono (by with_reducible assumption) ?_)) | omega | (simp only [World.size_alloc, World.size_setCell, World.size_drew, size_drewN']; omega) | go_size)) : Below wr.heap.size wr w9).mono hzr))
          go_wp2
          go_roundw
          case rel => exact ⟨k + 1, by omega, by go_num, HB9.out⟩
          case measure => simp [intOf]; omega
        · rw [hD] at dd
          have hz0 : zv = 0 := by rw [← hzv, HV0.out k hD]; rfl
          subst hz0
          have K1 := Lib.hid (fun W hb => KSV.out W 0 hb hzv)
          have K2 := Lib.hid (fun W hb => KSE.out W ze hb hze)
          clear hD hzv hze KSV KSE
          (go_wp2_with fail; (with_reducible refine (K1.out _ (Below.refl _ _)).mono ?_); rintro e w7 ⟨rfl, hb7⟩; have hb7z := Below.size hb7; (try simp only [World.size_alloc, World.size_setCell, World.size_drew, size_drewN'] at hb7z); have hb7c0 := fun o => below_at hb7 (be) o (by first | omega | (simp only [World.size_alloc, World.size_setCell, World.size_drew, size_drewN']; omega)); have hb7f0 := fun o => below_fr hb7 (be) o (by first | omega | (simp only [World.size_alloc, World.size_setCell, World.size_drew, size_drewN']; omega)); have hb7c1 := fun o => below_at hb7 (bd) o (by first | omega | (simp only [World.size_alloc, World.size_setCell, World.size_drew, size_drewN']; omega)); have hb7f1 := fun o => below_fr hb7 (bd) o (by first | omega | (simp only [World.size_alloc, World.size_setCell, World.size_drew, size_drewN']; omega)); have hb7c2 := fun o => below_at hb7 (w.heap.size) o (by first | omega | (simp only [World.size_alloc, World.size_setCell, World.size_drew, size_drewN']; omega)); have hb7f2 := fun o => below_fr hb7 (w.heap.size) o (by first | omega | (simp only [World.size_alloc, World.size_setCell, World.size_drew, size_drewN']; omega)); have hb7c3 := fun o => below_at hb7 (bv) o (by first | omega | (simp only [World.size_alloc, World.size_setCell, World.size_drew, size_drewN']; omega)); have hb7f3 := fun o => below_fr hb7 (bv) o (by first | omega | (simp only [World.size_alloc, World.size_setCell, World.size_drew, size_drewN']; omega)))
          (go_wp2_with fail; (with_reducible refine (K2.out _ (by have z0 := Below.size hb7; (try simp only [World.size_alloc, World.size_setCell, World.size_drew, size_drewN'] at z0 ⊢; skip); repeat' (first | (with_reducible exact Below.refl _ _) | (with_reducible assumption) | (with_reducible refine Below.alloc ?_ ?_ _) | (with_reducible refine Below.drew ?_) | (with_reducible refine below_drewN ?_ _) | (with_reducible refine Below.setCell ?_ ?_ _) | (with_reducible refine Below.trans ?_ (Below.mono (by with_reducible assumption) ?_)) | omega | (simp only [World.size_alloc, World.size_setCell, World.size_drew, size_drewN']; omega) | go_size))).mono ?_); rintro e w8 ⟨rfl, hb8⟩; have hb8z := Below.size hb8; (try simp only [World.size_alloc, World.size_setCell, World.size_drew, size_drewN'] at hb8z); have hb8c0 := fun o => below_at hb8 (bd) o (by first | omega | (simp only [World.size_alloc, World.size_setCell, World.size_drew, size_drewN']; omega)); have hb8f0 := fun o => below_fr hb8 (bd) o (by first | omega | (simp only [World.size_alloc, World.size_setCell, World.size_drew, size_drewN']; omega)); have hb8c1 := fun o => below_at hb8 (w.heap.size) o (by first | omega | (simp only [World.size_alloc, World.size_setCell, World.size_drew, size_drewN']; omega)); have hb8f1 := fun o => below_fr hb8 (w.heap.size) o (by first | omega | (simp only [World.size_alloc, World.size_setCell, World.size_drew, size_drewN']; omega)); have hb8c2 := fun o => below_at hb8 (bv) o (by first | omega | (simp only [World.size_alloc, World.size_setCell, World.size_drew, size_drewN']; omega)); have hb8f2 := fun o => below_fr hb8 (bv) o (by first | omega | (simp only [World.size_alloc, World.size_setCell, World.size_drew, size_drewN']; omega)))
          (go_wp2_with fail; (with_reducible refine (K1.out _ (by have z0 := Below.size hb7; have z1 := Below.size hb8; (try simp only [World.size_alloc, World.size_setCell, World.size_drew, size_drewN'] at z0 z1 ⊢; skip); repeat' (first | (with_reducible exact Below.refl _ _) | (with_reducible assumption) | (with_reducible refine Below.alloc ?_ ?_ _) | (with_reducible refine Below.drew ?_) | (with_reducible refine below_drewN ?_ _) | (with_reducible refine Below.setCell ?_ ?_ _) | (with_reducible refine Below.trans ?_ (Below.mono (by with_reducible assumption) ?_)) | omega | (simp only [World.size_alloc, World.size_setCell, World.size_drew, size_drewN']; omega) | go_size))).mono ?_); rintro e w9 ⟨rfl, hb9⟩; have hb9z := Below.size hb9; (try simp only [World.size_alloc, World.size_setCell, World.size_drew, size_drewN'] at hb9z))
          have HB9 := Lib.hid (HB.out.trans (((by have z0 := Below.size hb7; have z1 := Below.size hb8; have z2 := Below.size hb9; (try simp only [World.size_alloc, World.size_setCell, World.size_drew, size_drewN'] at z0 z1 z2 ⊢; skip); repeat' (first | (with_reducible exact Below.refl _ _) | (with_reducible assumption) | (with_reducible refine Below.alloc ?_ ?_ _) | (with_reducible refine Below.drew ?_) | (with_reducible refine below_drewN ?_ _) | (with_reducible refine Below.setCell ?_ ?_ _) | (with_reducible refine Below.trans ?_ (Below.mono (by with_reducible assumption) ?_)) | omega | (simp only [World.size_alloc, World.size_setCell, World.size_drew, size_drewN']; omega) | go_size)) : Below wr.heap.size wr w9).mono hzr))
          go_wp2
          go_roundw
          case rel => exact ⟨k + 1, by omega, by go_num, HB9.out⟩
          case measure => simp [intOf]; omega
      · have hkn : k = c.nd := by omega
        subst hkn
        have hbW : Below w.heap.size w wr := HB6W.out.trans (hb.mono (by omega))
        obtain ⟨bt, ot, st', At, nt', ct', Bt, mt', dt, rfl, hbt, p0, p1, p2, rt'⟩ := RT.out.at_ hsn
        have x0 := (hb.cell (lt_of_cell p0)).trans p0
        have x1 := (hb.cell (lt_of_cell p1)).trans p1
        have x2 := (hb.cell (lt_of_cell p2)).trans p2
        have t1 := (hb.cell (p := ⟨w.heap.size, 1, none⟩) hz6).trans u1
        have qt := (rt'.kp (Kp.of_below hb)).canQ (HST.out sr)
        have RVr := Lib.hid (RV.out.below hb)
        have REr := Lib.hid (RE.out.below hb)
        have KL2 := Lib.hid (fun W ca (hb' : Below wr.heap.size wr W) => KL.out W _ _ ca (REr.out.below hb'))
        have KV2 := Lib.hid (fun W ca (hb' : Below wr.heap.size wr W) => KV.out W _ _ ca (RVr.out.below hb'))
        have KC1 : Hid (∀ W b v1 v2, RdS W 0 v1 (canR (sumN XE c.nd)) → OwQ W b v2 ((1 : Nat) : Rat) → Calls Tryd.prog 11 #[v1, v2] W fun e w' => e = .returned (.int .i64 0) ∧ Below W.heap.size W w') := by
          show ∀ _, _
          intro W b v1 v2 h1 h2
          have := cmpQ (h1.canQ (HUE.out c.nd (Nat.le_refl _))) (h2.rq (L := M) (Sz.one (by omega))) (by omega) (by omega)
          rw [HES.out] at this
          rw [show sgnQ (1 - ((1 : Nat) : Rat)) = 0 by decide +kernel] at this
          exact this
        have KC2 : Hid (∀ W v1, Below wr.heap.size wr W → RdS W 0 v1 (canR (sumN XV c.nd)) → Calls Tryd.prog 11 #[v1, rv st' At nt' ct' Bt mt' dt] W fun e w' => e = .returned (.int .i64 0) ∧ Below W.heap.size W w') := by
          show ∀ _, _
          intro W v1 hb' h1
          have := cmpQ (h1.canQ (HUV.out c.nd (Nat.le_refl _))) (qt.below hb') (by omega) (by omega)
          rw [HVS.out, Rat.sub_self] at this
          exact this
        have K0 : Hid (∀ W : World, Calls Tryd.prog 13 #[.int .i64 1] W fun e w' => RetQ W.heap.size ((1 : Nat) : Rat) e w' ∧ Below W.heap.size W w') := fun W => ofQ 1 W (by omega)
        have hsi : (sr : Int) < (c.nd : Int) := by omega
        have hs0 : (0 : Int) ≤ (sr : Int) := by omega
        have hbt2 : bt < wr.heap.size := by omega
        have hwr2 : w.heap.size < wr.heap.size := by omega
        have HBW := Lib.hid hbW
        clear p0 p1 p2 rt' qt hb hbW
        go_wp2
        go_region_held3 (fun W => W.cell? ⟨w.heap.size, 1, none⟩ = some (.int .i64 (sr : Int)) ∧ W.cell? ⟨bt, ot + sr * 3, none⟩ = some (.bool st') ∧ W.cell? ⟨bt, ot + sr * 3 + 1, none⟩ = some (.slice At nt' ct') ∧ W.cell? ⟨bt, ot + sr * 3 + 2, none⟩ = some (.slice Bt mt' dt)) (go_keep)
          (first | ((go_at_call 12; (with_reducible refine (KL2.out _ _ (by (skip); repeat' (first | (with_reducible exact Below.refl _ _) | (with_reducible assumption) | (with_reducible refine Below.alloc ?_ ?_ _) | (with_reducible refine Below.drew ?_) | (with_reducible refine below_drewN ?_ _) | (with_reducible refine Below.setCell ?_ ?_ _) | (with_reducible refine Below.trans ?_ (Below.mono (by with_reducible assumption) ?_)) | omega | (simp only [World.size_alloc, World.size_setCell, World.size_drew, size_drewN']; omega) | go_size))).mono ?_); rintro e wa ⟨⟨va, rfl, ra⟩, hba⟩; have hbaz := Below.size hba; (try simp only [World.size_alloc, World.size_setCell, World.size_drew] at hbaz); have hbac0 := fun o => below_at hba (w.heap.size) o (by first | omega | (simp only [World.size_alloc, World.size_setCell, World.size_drew]; omega)); have hbaf0 := fun o => below_fr hba (w.heap.size) o (by first | omega | (simp only [World.size_alloc, World.size_setCell, World.size_drew]; omega)); have hbal0 : w.heap.size < (wa).heap.size := (by omega); have hbac1 := fun o => below_at hba (bt) o (by first | omega | (simp only [World.size_alloc, World.size_setCell, World.size_drew]; omega)); have hbaf1 := fun o => below_fr hba (bt) o (by first | omega | (simp only [World.size_alloc, World.size_setCell, World.size_drew]; omega)); have hbal1 : bt < (wa).heap.size := (by omega))) | ((go_at_call 12; (with_reducible refine (KL2.out _ _ (by have z0 := Below.size hbb; (try simp only [World.size_alloc, World.size_setCell, World.size_drew, size_drewN'] at z0 ⊢; skip); repeat' (first | (with_reducible exact Below.refl _ _) | (with_reducible assumption) | (with_reducible refine Below.alloc ?_ ?_ _) | (with_reducible refine Below.drew ?_) | (with_reducible refine below_drewN ?_ _) | (with_reducible refine Below.setCell ?_ ?_ _) | (with_reducible refine Below.trans ?_ (Below.mono (by with_reducible assumption) ?_)) | omega | (simp only [World.size_alloc, World.size_setCell, World.size_drew, size_drewN']; omega) | go_size))).mono ?_); rintro e wa ⟨⟨va, rfl, ra⟩, hba⟩; have hbaz := Below.size hba; (try simp only [World.size_alloc, World.size_setCell, World.size_drew] at hbaz); have hbac0 := fun o => below_at hba (w.heap.size) o (by first | omega | (simp only [World.size_alloc, World.size_setCell, World.size_drew]; omega)); have hbaf0 := fun o => below_fr hba (w.heap.size) o (by first | omega | (simp only [World.size_alloc, World.size_setCell, World.size_drew]; omega)); have hbal0 : w.heap.size < (wa).heap.size := (by omega); have hbac1 := fun o => below_at hba (bt) o (by first | omega | (simp only [World.size_alloc, World.size_setCell, World.size_drew]; omega)); have hbaf1 := fun o => below_fr hba (bt) o (by first | omega | (simp only [World.size_alloc, World.size_setCell, World.size_drew]; omega)); have hbal1 : bt < (wa).heap.size := (by omega))) | ((go_at_call 13; (with_reducible refine (K0.out _).mono ?_); rintro e wb ⟨⟨vb, rfl, ob⟩, hbb⟩; have hbbz := Below.size hbb; (try simp only [World.size_alloc, World.size_setCell, World.size_drew] at hbbz); have hbbc0 := fun o => below_at hbb (w.heap.size) o (by first | omega | (simp only [World.size_alloc, World.size_setCell, World.size_drew]; omega)); have hbbf0 := fun o => below_fr hbb (w.heap.size) o (by first | omega | (simp only [World.size_alloc, World.size_setCell, World.size_drew]; omega)); have hbbl0 : w.heap.size < (wb).heap.size := (by omega); have hbbc1 := fun o => below_at hbb (bt) o (by first | omega | (simp only [World.size_alloc, World.size_setCell, World.size_drew]; omega)); have hbbf1 := fun o => below_fr hbb (bt) o (by first | omega | (simp only [World.size_alloc, World.size_setCell, World.size_drew]; omega)); have hbbl1 : bt < (wb).heap.size := (by omega))) | ((go_at_call 11; (with_reducible refine (KC1.out _ _ _ _ (ra.kp (Kp.of_below hbb)) ob).mono ?_); rintro e wc ⟨rfl, hbc⟩; have hbcz := Below.size hbc; (try simp only [World.size_alloc, World.size_setCell, World.size_drew] at hbcz); have hbcc0 := fun o => below_at hbc (w.heap.size) o (by first | omega | (simp only [World.size_alloc, World.size_setCell, World.size_drew]; omega)); have hbcf0 := fun o => below_fr hbc (w.heap.size) o (by first | omega | (simp only [World.size_alloc, World.size_setCell, World.size_drew]; omega)); have hbcl0 : w.heap.size < (wc).heap.size := (by omega); have hbcc1 := fun o => below_at hbc (bt) o (by first | omega | (simp only [World.size_alloc, World.size_setCell, World.size_drew]; omega)); have hbcf1 := fun o => below_fr hbc (bt) o (by first | omega | (simp only [World.size_alloc, World.size_setCell, World.size_drew]; omega)); have hbcl1 : bt < (wc).heap.size := (by omega))) | ((go_at_call 11; (with_reducible refine (KC1.out _ _ _ _ ra (ob.below hba)).mono ?_); rintro e wc ⟨rfl, hbc⟩; have hbcz := Below.size hbc; (try simp only [World.size_alloc, World.size_setCell, World.size_drew] at hbcz); have hbcc0 := fun o => below_at hbc (w.heap.size) o (by first | omega | (simp only [World.size_alloc, World.size_setCell, World.size_drew]; omega)); have hbcf0 := fun o => below_fr hbc (w.heap.size) o (by first | omega | (simp only [World.size_alloc, World.size_setCell, World.size_drew]; omega)); have hbcl0 : w.heap.size < (wc).heap.size := (by omega); have hbcc1 := fun o => below_at hbc (bt) o (by first | omega | (simp only [World.size_alloc, World.size_setCell, World.size_drew]; omega)); have hbcf1 := fun o => below_fr hbc (bt) o (by first | omega | (simp only [World.size_alloc, World.size_setCell, World.size_drew]; omega)); have hbcl1 : bt < (wc).heap.size := (by omega))) | ((go_at_call 12; (with_reducible refine (KV2.out _ _ (by have z0 := Below.size hba; have z1 := Below.size hbb; have z2 := Below.size hbc; (try simp only [World.size_alloc, World.size_setCell, World.size_drew, size_drewN'] at z0 z1 z2 ⊢; skip); repeat' (first | (with_reducible exact Below.refl _ _) | (with_reducible assumption) | (with_reducible refine Below.alloc ?_ ?_ _) | (with_reducible refine Below.drew ?_) | (with_reducible refine below_drewN ?_ _) | (with_reducible refine Below.setCell ?_ ?_ _) | (with_reducible refine Below.trans ?_ (Below.mono (by with_reducible assumption) ?_)) | omega | (simp only [World.size_alloc, World.size_setCell, World.size_drew, size_drewN']; omega) | go_size))).mono ?_); rintro e wd ⟨⟨vd, rfl, rd⟩, hbd⟩; have hbdz := Below.size hbd; (try simp only [World.size_alloc, World.size_setCell, World.size_drew] at hbdz); have hbdc0 := fun o => below_at hbd (w.heap.size) o (by first | omega | (simp only [World.size_alloc, World.size_setCell, World.size_drew]; omega)); have hbdf0 := fun o => below_fr hbd (w.heap.size) o (by first | omega | (simp only [World.size_alloc, World.size_setCell, World.size_drew]; omega)); have hbdl0 : w.heap.size < (wd).heap.size := (by omega); have hbdc1 := fun o => below_at hbd (bt) o (by first | omega | (simp only [World.size_alloc, World.size_setCell, World.size_drew]; omega)); have hbdf1 := fun o => below_fr hbd (bt) o (by first | omega | (simp only [World.size_alloc, World.size_setCell, World.size_drew]; omega)); have hbdl1 : bt < (wd).heap.size := (by omega))) | ((go_at_call 11; (with_reducible refine (KC2.out _ _ (by have z0 := Below.size hba; have z1 := Below.size hbb; have z2 := Below.size hbc; have z3 := Below.size hbd; (try simp only [World.size_alloc, World.size_setCell, World.size_drew, size_drewN'] at z0 z1 z2 z3 ⊢; skip); repeat' (first | (with_reducible exact Below.refl _ _) | (with_reducible assumption) | (with_reducible refine Below.alloc ?_ ?_ _) | (with_reducible refine Below.drew ?_) | (with_reducible refine below_drewN ?_ _) | (with_reducible refine Below.setCell ?_ ?_ _) | (with_reducible refine Below.trans ?_ (Below.mono (by with_reducible assumption) ?_)) | omega | (simp only [World.size_alloc, World.size_setCell, World.size_drew, size_drewN']; omega) | go_size)) rd).mono ?_); rintro e we ⟨rfl, hbe⟩; have hbez := Below.size hbe; (try simp only [World.size_alloc, World.size_setCell, World.size_drew] at hbez); have hbec0 := fun o => below_at hbe (w.heap.size) o (by first | omega | (simp only [World.size_alloc, World.size_setCell, World.size_drew]; omega)); have hbef0 := fun o => below_fr hbe (w.heap.size) o (by first | omega | (simp only [World.size_alloc, World.size_setCell, World.size_drew]; omega)); have hbel0 : w.heap.size < (we).heap.size := (by omega); have hbec1 := fun o => below_at hbe (bt) o (by first | omega | (simp only [World.size_alloc, World.size_setCell, World.size_drew]; omega)); have hbef1 := fun o => below_fr hbe (bt) o (by first | omega | (simp only [World.size_alloc, World.size_setCell, World.size_drew]; omega)); have hbel1 : bt < (we).heap.size := (by omega))) | fail)
        all_goals
          have hB9 : Below wr.heap.size wr we := (by have z0 := Below.size hba; have z1 := Below.size hbb; have z2 := Below.size hbc; have z3 := Below.size hbd; have z4 := Below.size hbe; (try simp only [World.size_alloc, World.size_setCell, World.size_drew, size_drewN'] at z0 z1 z2 z3 z4 ⊢; skip); repeat' (first | (with_reducible exact Below.refl _ _) | (with_reducible assumption) | (with_reducible refine Below.alloc ?_ ?_ _) | (with_reducible refine Below.drew ?_) | (with_reducible refine below_drewN ?_ _) | (with_reducible refine Below.setCell ?_ ?_ _) | (with_reducible refine Below.trans ?_ (Below.mono (by with_reducible assumption) ?_)) | omega | (simp only [World.size_alloc, World.size_setCell, World.size_drew, size_drewN']; omega) | go_size))
          have HB9 := Lib.hid (HBW.out.trans (hB9.mono (by have := HBW.out.size; omega)))
          go_wp2
          go_ret
          exact ⟨rfl, HB9.out⟩
end Go.Proofs.YtomkdgcpmpbfhaaDoor
