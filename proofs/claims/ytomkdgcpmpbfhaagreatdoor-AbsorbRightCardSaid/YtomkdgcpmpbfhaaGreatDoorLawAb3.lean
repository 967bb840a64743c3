/- Contracts of functions and lemmas, used by the proofs of the given statements. No condition beyond those that each lemma names. -/
import Derived.Test.YtomkdgcpmpbfhaaGreatDoorJLawAb2
import Derived.Test.YtomkdgcpmpbfhaaGreatDoorBaseAny
import Derived.Test.YtomkdgcpmpbfhaaGreatDoorJAbZ
namespace Go.Proofs.YtomkdgcpmpbfhaaGreatDoor
open Go.RowKit
set_option linter.unusedSimpArgs false
set_option linter.unusedVariables false
set_option maxRecDepth 20000
attribute [local irreducible] nv wp win plainB validR valR canR mvE chkM codeC spr sprN chg cnt cntB ixB kept sysK plB parM outK gj accL totL floL
/-! ## AbsorbRight -/
theorem acc_same {c : Chn} {w : World} {b0 n : Nat} {A : Option Addr} {R : Nat → Rw} (hv : RowA w b0 A n R) (h : c.codeX n R = 0) : c.accB n R = true ↔ SameR c.nd n (can c.times) R := by
  obtain ⟨h0, hn, ha⟩ := Chn.codeX_0 h
  rw [Chn.acc_iff h]
  constructor
  · intro hs
    refine ⟨hn.symm, fun k hk => ?_⟩
    have hk' : k < n := by omega
    unfold can
    rw [← hs k hk']
    exact canR_valR (hv.okR' hk') (allV_at ha hk')
  · rintro ⟨-, hs⟩ k hk
    rw [← hs k (by omega)]
    exact valR_canR _
theorem bis_eq (n : Int) (w : World) : Calls Tryz.prog 25 #[.iface 53 (.int .i64 n), .int .i64 n] w fun e w' => e = .returned (.bool true) ∧ w = w' := by
  have hta : ∀ (x : Value) (w : World), (Instr.typeAssert (.iface 53 x) 29 53 true).run Tryz.prog w = .ok (.tuple #[x, .bool true]) w := fun _ _ => by kernel_rfl
  go_enter Tryz.func25, Tryz.ntmps25
  go_wp2
  go_ret
  exact ⟨rfl, rfl⟩
theorem bis_ne {n k : Int} (h : n ≠ k) (w : World) : Calls Tryz.prog 25 #[.iface 53 (.int .i64 n), .int .i64 k] w fun e w' => e = .returned (.bool false) ∧ w = w' := by
  have hta : ∀ (x : Value) (w : World), (Instr.typeAssert (.iface 53 x) 29 53 true).run Tryz.prog w = .ok (.tuple #[x, .bool true]) w := fun _ _ => by kernel_rfl
  have e1 : (n == k) = false := beq_eq_false_iff_ne.2 h
  have e2 : decide (n = k) = false := decide_eq_false h
  go_enter Tryz.func25, Tryz.ntmps25
  go_wp2
  go_ret
  exact ⟨rfl, rfl⟩
set_option maxHeartbeats 16000000 in
theorem absorbRight_law {w : World} {AM AD AV : Option Addr} {cm cd n ca : Nat} {c : Chn} {R : Nat → Rw} (h : ChI w w.heap.size AM cm AD cd c) (hv : RowA w w.heap.size AV n R) :
    Calls Tryz.prog 5 #[cv c.st c.sr AM c.nm cm AD c.nd cd, .slice AV n ca] w fun e w' => e = .returned (.bool true) ∧ Below w.heap.size w w' := by
  have KF := Lib.hid (fun W (hb : Below w.heap.size w W) => valid54_any (h.below hb))
  have KB := Lib.hid (fun W (hb : Below w.heap.size w W) => brief6_any (c := ca) (hv.below hb))
  have hbA : Below w.heap.size w (w.alloc (.cells #[.int .i64 c.st, .int .i64 c.sr, .slice AM c.nm cm, .slice AD c.nd cd] 25)) := (Below.refl _ _).alloc (Nat.le_refl _) _
  have HBA := Lib.hid hbA
  have HI := Lib.hid h
  have HRV := Lib.hid hv
  clear h hv hbA
  go_enter Tryz.func5, Tryz.ntmps5
  (go_wp2_with fail; (with_reducible refine (KF.out _ HBA.out).mono ?_); rintro e w1 ⟨⟨bb, rfl, hbb⟩, hb1⟩; have hb1z := Below.size hb1; (try simp only [World.size_alloc, World.size_setCell, World.size_drew, size_drewN'] at hb1z); have hb1c0 := fun o => below_at hb1 (w.heap.size) o (by first | omega | (simp only [World.size_alloc, World.size_setCell, World.size_drew, size_drewN']; omega)); have hb1f0 := fun o => below_fr hb1 (w.heap.size) o (by first | omega | (simp only [World.size_alloc, World.size_setCell, World.size_drew, size_drewN']; omega)))
  have hB1 : Below w.heap.size w w1 := HBA.out.trans (hb1.mono (by simp))
  cases bb with
  | false =>
    clear hbb
    (go_wp2_with fail; (with_reducible refine (awake4_any _).mono ?_); rintro e w2 ⟨rfl, hb2⟩; have hb2z := Below.size hb2; (try simp only [World.size_alloc, World.size_setCell, World.size_drew, size_drewN'] at hb2z))
    go_wp2
    go_ret
    exact ⟨rfl, hB1.trans (hb2.mono hB1.size)⟩
  | true =>
    have HF := Lib.hid (hbb rfl)
    clear hbb
    have hw1 : w.heap.size < w1.heap.size := by have := hb1.size; simp at this; omega
    (go_wp2_with fail; (with_reducible refine (KB.out _ hB1).mono ?_); rintro e w2 ⟨⟨b2, rfl, hb2'⟩, hb2⟩; have hb2z := Below.size hb2; (try simp only [World.size_alloc, World.size_setCell, World.size_drew, size_drewN'] at hb2z); have hb2c0 := fun o => below_at hb2 (w.heap.size) o (by first | omega | (simp only [World.size_alloc, World.size_setCell, World.size_drew, size_drewN']; omega)); have hb2f0 := fun o => below_fr hb2 (w.heap.size) o (by first | omega | (simp only [World.size_alloc, World.size_setCell, World.size_drew, size_drewN']; omega)))
    have hB2 : Below w.heap.size w w2 := hB1.trans (hb2.mono hB1.size)
    cases b2 with
    | false =>
      clear hb2'
      (go_wp2_with fail; (with_reducible refine (awake4_any _).mono ?_); rintro e w3 ⟨rfl, hb3⟩; have hb3z := Below.size hb3; (try simp only [World.size_alloc, World.size_setCell, World.size_drew, size_drewN'] at hb3z))
      go_wp2
      go_ret
      exact ⟨rfl, hB2.trans (hb3.mono hB2.size)⟩
    | true =>
      have h6 := hb2' rfl
      clear hb2'
      have hS := HF.out.1.small HI.out
      have h0 := HF.out.2
      have ok := Chn.codeA_ok h0
      have hst := ok.st
      have hn9 := hS.nd ok
      have K3 : Hid (∀ W, Below w.heap.size w W → Calls Tryz.prog 10 #[cv c.st c.sr AM c.nm cm AD c.nd cd] W fun e w' => (∃ A d, e = .returned (.tuple #[.slice A c.nd d, .nilIface]) ∧ RowA w' w'.heap.size A c.nd (can c.times)) ∧ Below W.heap.size W w') := fun W hb => (Times_any (HI.out.below hb) hS.sysS).mono fun e w' h => ⟨by have := h.1; rw [h0, outN_0] at this; obtain ⟨A, d, e1, r⟩ := this; rw [errM_0] at e1; exact ⟨A, d, e1, r⟩, h.2⟩
      have K4 : Hid (∀ W, Below w.heap.size w W → Calls Tryz.prog 9 #[cv c.st c.sr AM c.nm cm AD c.nd cd] W fun e w' => (∃ A d, e = .returned (.tuple #[.slice A c.nd d, .nilIface]) ∧ MkI w' A c.nd c.lv) ∧ Below W.heap.size W w') := fun W hb => (Live_any (HI.out.below hb) hS.sysS).mono fun e w' h => ⟨by have := h.1; rw [h0, outN_0] at this; obtain ⟨A, d, e1, r⟩ := this; rw [errM_0] at e1; exact ⟨A, d, e1, r⟩, h.2⟩
      have hbig := times_big hS
      rw [h0, outN_0] at hbig
      have hXV : vecQ c.nd (can c.times) = c.times := Chn.times_vec ok
      have hFZ : FzL 220000000 c.times := hS.sol_fz h0 false
      have K5 : Hid (∀ W A ca, Below w.heap.size w W → RowA W W.heap.size A c.nd (can c.times) → Calls Tryz.prog 21 #[cv c.st c.sr AM c.nm cm AD c.nd cd, .slice A c.nd ca] W fun e w' => e = .returned (.tuple #[.bool true, .nilIface]) ∧ Below W.heap.size W w') := by
        show ∀ _, _
        intro W A ca hb hA
        have := Accepts_any (ca := ca) (L := 220000000) (HI.out.below hb) hS hA hbig (by omega) (Nat.le_refl _) (fun _ => by rw [hXV]; exact hFZ)
        rw [Chn.accB_times h0, Chn.codeX_times h0, errM_0] at this
        exact this
      have K6 : Hid (∀ W, Below w.heap.size w W → Calls Tryz.prog 21 #[cv c.st c.sr AM c.nm cm AD c.nd cd, .slice AV n ca] W fun e w' => e = .returned (.tuple #[.bool (c.accB n R), errM (c.codeX n R)]) ∧ Below W.heap.size W w') := fun W hb => Accepts_any (L := n * 6 + 6 + 1) (HI.out.below hb) hS ((HRV.out.below hb).base hb.size) h6.big (by have := h6.1; omega) (by have := h6.1; omega) (fun _ => brief_fz HRV.out h6)
      have HSame : Hid (c.codeX n R = 0 → (c.accB n R = true ↔ SameR c.nd n (can c.times) R)) := fun h => acc_same HRV.out h
      have HCX : Hid (c.codeX n R ≠ 0 → c.codeX n R = 11 ∨ c.codeX n R = 2) := fun h => by
        unfold Chn.codeX at h ⊢
        rw [if_neg (by omega)] at h ⊢
        split
        · exact .inl rfl
        · rename_i h1
          rw [if_neg h1] at h
          split
          · rename_i h2; rw [if_pos h2] at h; exact absurd rfl h
          · exact .inr rfl
      have HPOS : Hid (∀ s, sgnQ (c.times s) = if c.lv s = true then 1 else 0) := fun s => by
        cases hl : c.lv s
        · rw [Chn.times_off hl]; rfl
        · rw [if_pos rfl]; exact sgn_pos (of_decide_eq_true ((Chn.times_gt h0 s).trans hl))
      have KR := Lib.hid (fun W A b0 ca2 (hb : Below w.heap.size w W) (hA : RowA W b0 A c.nd (can c.times)) => rats_anyB (c := ca2) (d := ca) hA (HRV.out.below hb) (by omega) hbig)
      have HSZ : Hid (∀ s, Sz 220000001 (c.times s)) := fun s => (hFZ.more (show 220000000 ≤ 220000001 by omega)).sz (by omega) s
      have KSg := Lib.hid (fun W k b0 v (hA : RdS W b0 v (canR (c.times k))) => signQ (hA.canQ (HSZ.out k)) (by omega) (by omega))
      obtain ⟨XT, hXT⟩ : ∃ XT, XT = c.times := ⟨_, rfl⟩
      obtain ⟨LV, hLV⟩ : ∃ LV, LV = c.lv := ⟨_, rfl⟩
      obtain ⟨cX, hcX⟩ : ∃ cX, cX = c.codeX n R := ⟨_, rfl⟩
      obtain ⟨bX, hbX⟩ : ∃ bX, bX = c.accB n R := ⟨_, rfl⟩
      rw [← hXT] at K3 K5 HSame HPOS KR KSg
      rw [← hLV] at K4 HPOS
      rw [← hcX, ← hbX] at K6 HSame
      rw [← hcX] at HCX
      have e1 : ((c.nd : Int) != c.st) = false := by rw [hst]; simp
      clear hXT hLV hcX hbX hXV hFZ hbig hst ok h0 hS h6 HSZ HF HI HRV KF KB HBA
      (go_wp2_with fail; (with_reducible refine (awake4_any _).mono ?_); rintro e w3 ⟨rfl, hb3⟩; have hb3z := Below.size hb3; (try simp only [World.size_alloc, World.size_setCell, World.size_drew, size_drewN'] at hb3z); have hb3c0 := fun o => below_at hb3 (w.heap.size) o (by first | omega | (simp only [World.size_alloc, World.size_setCell, World.size_drew, size_drewN']; omega)); have hb3f0 := fun o => below_fr hb3 (w.heap.size) o (by first | omega | (simp only [World.size_alloc, World.size_setCell, World.size_drew, size_drewN']; omega)))
      have hB3 : Below w.heap.size w w3 := hB2.trans (hb3.mono hB2.size)
      (go_wp2_with fail; (with_reducible refine (K3.out _ hB3).mono ?_); rintro e w4 ⟨⟨A4, c4, rfl, r4⟩, hb4⟩; have hb4z := Below.size hb4; (try simp only [World.size_alloc, World.size_setCell, World.size_drew, size_drewN'] at hb4z); have hb4c0 := fun o => below_at hb4 (w.heap.size) o (by first | omega | (simp only [World.size_alloc, World.size_setCell, World.size_drew, size_drewN']; omega)); have hb4f0 := fun o => below_fr hb4 (w.heap.size) o (by first | omega | (simp only [World.size_alloc, World.size_setCell, World.size_drew, size_drewN']; omega)))
      have hB4 : Below w.heap.size w w4 := hB3.trans (hb4.mono hB3.size)
      (go_wp2_with fail; (with_reducible refine (K4.out _ hB4).mono ?_); rintro e w5 ⟨⟨A5, c5, rfl, r5⟩, hb5⟩; have hb5z := Below.size hb5; (try simp only [World.size_alloc, World.size_setCell, World.size_drew, size_drewN'] at hb5z); have hb5c0 := fun o => below_at hb5 (w.heap.size) o (by first | omega | (simp only [World.size_alloc, World.size_setCell, World.size_drew, size_drewN']; omega)); have hb5f0 := fun o => below_fr hb5 (w.heap.size) o (by first | omega | (simp only [World.size_alloc, World.size_setCell, World.size_drew, size_drewN']; omega)))
      have hB5 : Below w.heap.size w w5 := hB4.trans (hb5.mono hB4.size)
      have R5 := Lib.hid ((r4.below hb5).base hb5.size)
      clear r4
      (go_wp2_with fail; (with_reducible refine (K5.out _ _ _ hB5 R5.out).mono ?_); rintro e w6 ⟨rfl, hb6⟩; have hb6z := Below.size hb6; (try simp only [World.size_alloc, World.size_setCell, World.size_drew, size_drewN'] at hb6z); have hb6c0 := fun o => below_at hb6 (w.heap.size) o (by first | omega | (simp only [World.size_alloc, World.size_setCell, World.size_drew, size_drewN']; omega)); have hb6f0 := fun o => below_fr hb6 (w.heap.size) o (by first | omega | (simp only [World.size_alloc, World.size_setCell, World.size_drew, size_drewN']; omega)))
      have hB6 : Below w.heap.size w w6 := hB5.trans (hb6.mono hB5.size)
      have R6 := Lib.hid (R5.out.below hb6)
      have H5 := Lib.hid r5
      have HB6 := Lib.hid hb6
      have hz6 : w.heap.size < w6.heap.size := by have := hb1.size; have := hB6.size; have := hb2.size; have := hb3.size; have := hb4.size; have := hb5.size; have := hb6.size; omega
      have y0 : ∀ i, w6.cell? ⟨w.heap.size, i, none⟩ = (w.alloc (.cells #[.int .i64 c.st, .int .i64 c.sr, .slice AM c.nm cm, .slice AD c.nd cd] 25)).cell? ⟨w.heap.size, i, none⟩ := fun i => by rw [hb6c0, hb5c0, hb4c0, hb3c0, hb2c0, hb1c0]
      have u0 : w6.cell? ⟨w.heap.size, 0, none⟩ = some (.int .i64 c.st) := by rw [y0]; simp
      have u1 : w6.cell? ⟨w.heap.size, 1, none⟩ = some (.int .i64 c.sr) := by rw [y0]; simp
      have u2 : w6.cell? ⟨w.heap.size, 2, none⟩ = some (.slice AM c.nm cm) := by rw [y0]; simp
      have u3 : w6.cell? ⟨w.heap.size, 3, none⟩ = some (.slice AD c.nd cd) := by rw [y0]; simp
      have HB6W := Lib.hid hB6
      clear r5 R5 K3 K4 K5 y0 hb1 hb2 hb3 hb4 hb5 hb6 hb1c0 hb2c0 hb3c0 hb4c0 hb5c0 hb6c0 hb1f0 hb2f0 hb3f0 hb4f0 hb5f0 hb6f0 hB1 hB2 hB3 hB4 hB5 hB6
      go_wp2
      go_loopw [74] (fun i wr => ∃ k : Nat, k ≤ c.nd ∧ i = .int .i64 (k : Int) ∧ Below w6.heap.size w6 wr) (fun i _ => c.nd - (intOf i).toNat)
      case atStart => exact ⟨0, Nat.zero_le _, rfl, Below.refl _ _⟩
      case round =>
        obtain ⟨k, hk, rfl, hb⟩ := hrel
        have hzr := hb.size
        by_cases hlt : k < c.nd
        · obtain ⟨bx, ox, sx, Ax, nx, cx, Bx, mx, dx, rfl, hbx, p0, p1, p2, rx⟩ := R6.out.at_ hlt
          have x0 := (hb.cell (lt_of_cell p0)).trans p0
          have x1 := (hb.cell (lt_of_cell p1)).trans p1
          have x2 := (hb.cell (lt_of_cell p2)).trans p2
          obtain ⟨b1, ol, rfl, hbl, mt⟩ := H5.out.later (HB6.out.trans (hb.mono HB6.out.size)) hlt
          have KS := Lib.hid (fun W (hb' : Below w6.heap.size w6 W) => KSg.out W k _ _ (rx.kp (Kp.of_below hb')))
          have hp := HPOS.out k
          have hki : (k : Int) < (c.nd : Int) := by omega
          have hk0 : (0 : Int) ≤ (k : Int) := by omega
          have hbl2 : b1 < wr.heap.size := by have := HB6.out.size; omega
          have HB := Lib.hid hb
          clear p0 p1 p2 rx hb
          have mt' := (World.cell?_alloc_lt wr (.cells #[.bool sx, .slice Ax nx cx, .slice Bx mx dx] 50) ⟨b1, ol + k, none⟩ hbl2).trans mt
          have hAL : Below wr.heap.size wr (wr.alloc (.cells #[.bool sx, .slice Ax nx cx, .slice Bx mx dx] 50)) := (Below.refl _ _).alloc (Nat.le_refl _) _
          have HAL := Lib.hid (HB.out.trans (hAL.mono hzr))
          clear hAL mt
          cases hLk : LV k
          all_goals
            rw [hLk] at mt'
            simp only [hLk, if_true, if_false, Bool.false_eq_true] at hp
            rw [hp] at KS
            clear hp hLk
            go_wp2
            generalize hwq : wr.alloc (.cells #[.bool sx, .slice Ax nx cx, .slice Bx mx dx] 50) = wq at *
            have z0 : wq.cell? ⟨wr.heap.size, 0, none⟩ = some (.bool sx) := by rw [← hwq]; simp
            have z1 : wq.cell? ⟨wr.heap.size, 1, none⟩ = some (.slice Ax nx cx) := by rw [← hwq]; simp
            have z2 : wq.cell? ⟨wr.heap.size, 2, none⟩ = some (.slice Bx mx dx) := by rw [← hwq]; simp
            have a0 := fun y : Sub wq => y.cell z0
            have a1 := fun y : Sub wq => y.cell z1
            have a2 := fun y : Sub wq => y.cell z2
            have a3 := fun y : Sub wq => y.cell mt'
            have KQ := Lib.hid (fun W (hb' : Below wq.heap.size wq W) => KS.out W (HAL.out.trans (hb'.mono HAL.out.size)))
            clear z0 z1 z2 mt' x0 x1 x2 hwq
            ((refine wp_region_quiet_bel (by kernel_rfl) (by kernel_rfl) ?_); (repeat (go_big_quiet_step ((go_at_call 24; with_reducible exact Calls.quiet_bel (KQ.out _ (Sub.bel _)))))); (refine wpQuiet_nil ?_); rintro w7 ⟨⟨_, hb7⟩, rfl⟩; (try dsimp only))
            have HB7 := Lib.hid (HAL.out.trans (hb7.mono HAL.out.size))
            go_wp2
            go_roundw
            case rel => exact ⟨k + 1, by omega, by go_num, HB7.out⟩
            case measure => simp [intOf]; omega
        · have hB7 : Below w.heap.size w wr := HB6W.out.trans (hb.mono (by omega))
          have x0 := (hb.cell (p := ⟨w.heap.size, 0, none⟩) hz6).trans u0
          have x1 := (hb.cell (p := ⟨w.heap.size, 1, none⟩) hz6).trans u1
          have x2 := (hb.cell (p := ⟨w.heap.size, 2, none⟩) hz6).trans u2
          have x3 := (hb.cell (p := ⟨w.heap.size, 3, none⟩) hz6).trans u3
          have R7 := Lib.hid (R6.out.below hb)
          have hkn : k = c.nd := by omega
          subst hkn
          clear hb R6
          by_cases h9 : cX = 0
          · subst h9
            rw [errM_0] at K6
            have hsm := HSame.out rfl
            have HSM := Lib.hid hsm
            clear hsm HSame HCX
            (go_wp2_with fail; (with_reducible refine (K6.out _ hB7).mono ?_); rintro e w8 ⟨rfl, hb8⟩; have hb8z := Below.size hb8; (try simp only [World.size_alloc, World.size_setCell, World.size_drew, size_drewN'] at hb8z))
            have hB8 : Below w.heap.size w w8 := hB7.trans (hb8.mono hB7.size)
            have R8 := Lib.hid (R7.out.below hb8)
            (go_wp2_with fail; (with_reducible refine (KR.out _ _ _ _ hB8 R8.out).mono ?_); rintro e w9 ⟨⟨b9, rfl, hb9'⟩, hb9⟩; have hb9z := Below.size hb9; (try simp only [World.size_alloc, World.size_setCell, World.size_drew, size_drewN'] at hb9z))
            have hB9 : Below w.heap.size w w9 := hB8.trans (hb9.mono hB8.size)
            have e5 : bX = b9 := by rw [Bool.eq_iff_iff, HSM.out, hb9']
            have e6 : (bX == b9) = true := by rw [e5]; simp
            clear e5 hb9' HSM
            go_wp2
            go_ret
            exact ⟨rfl, hB9⟩
          · have hc := HCX.out h9
            rw [errM_n h9] at K6
            clear HSame HCX
            rcases hc with rfl | rfl
            · (go_wp2_with fail; (with_reducible refine (K6.out _ hB7).mono ?_); rintro e w8 ⟨rfl, hb8⟩; have hb8z := Below.size hb8; (try simp only [World.size_alloc, World.size_setCell, World.size_drew, size_drewN'] at hb8z))
              have hB8 : Below w.heap.size w w8 := hB7.trans (hb8.mono hB7.size)
              go_wp2_with fail
              (with_reducible refine (bis_eq _ _).mono ?_)
              rintro e _ ⟨rfl, rfl⟩
              go_wp2
              go_ret
              exact ⟨rfl, hB8⟩
            · (go_wp2_with fail; (with_reducible refine (K6.out _ hB7).mono ?_); rintro e w8 ⟨rfl, hb8⟩; have hb8z := Below.size hb8; (try simp only [World.size_alloc, World.size_setCell, World.size_drew, size_drewN'] at hb8z))
              have hB8 : Below w.heap.size w w8 := hB7.trans (hb8.mono hB7.size)
              go_wp2_with fail
              (with_reducible refine (bis_ne (by decide) _).mono ?_)
              rintro e _ ⟨rfl, rfl⟩
              go_wp2_with fail
              (with_reducible refine (bis_eq _ _).mono ?_)
              rintro e _ ⟨rfl, rfl⟩
              go_wp2
              go_ret
              exact ⟨rfl, hB8⟩
end Go.Proofs.YtomkdgcpmpbfhaaGreatDoor
