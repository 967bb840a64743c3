/- Contracts of functions and lemmas, used by the proofs of the given statements. No condition beyond those that each lemma names. -/
import Derived.Test.YtemejneabpjfhaaGreatDoorLawTrV
namespace Go.Proofs.YtemejneabpjfhaaGreatDoor
open Go.RowKit
set_option linter.unusedSimpArgs false
set_option linter.unusedVariables false
set_option maxRecDepth 20000
attribute [local irreducible] nv wp win plainB validR valR canR mvE chkM codeC exK maxF dsum
/-! ## TransientSums -/
theorem ValP.okc {c : Chn} {r : Rw} (h : ValP c r) : c.Ok ∧ 0 < valR r ∧ c.fast ≤ valR r :=
  ⟨(Chn.codeR_ok h.code).1, (Chn.codeR_0 h.code).2⟩
theorem ValP.exle {c : Chn} {r : Rw} (h : ValP c r) (s : Nat) (hs : s < c.nd) : exK c.f c.q s c.nm ≤ valR r := by
  have h1 : c.ex s ≤ maxF c.ex (c.nd - 1) := maxF_ge (by omega)
  exact Rat.le_trans h1 h.okc.2.2
theorem Chn.act_f (c : Chn) : c.act false = fun _ => true := by funext k; rfl
theorem Chn.ft {c : Chn} (ok : c.Ok) : ∀ j, j < c.nm → c.f j < c.nd ∧ c.t j < c.nd ∧ c.f j ≠ c.t j := fun j hj => by
  have := ok.mv j hj
  unfold Chn.f Chn.t
  omega
theorem exK_out {F : Nat → Nat} {q : Nat → Rat} {s n : Nat} : ∀ {k : Nat}, (∀ j, j < k → F j < n) → n ≤ s → exK F q s k = 0
  | 0, _, _ => by unfold exK; rfl
  | k + 1, h, hs => by
    have h1 := exK_out (q := q) (k := k) (fun j hj => h j (by omega)) hs
    have h2 := h k (by omega)
    rw [exK, if_neg (by omega), h1]
theorem ValP.exall {c : Chn} {r : Rw} (h : ValP c r) (s : Nat) : exK c.f c.q s c.nm ≤ valR r := by
  by_cases hs : s < c.nd
  · exact h.exle s hs
  · rw [exK_out (n := c.nd) (fun j hj => (Chn.ft h.okc.1 j hj).1) (by omega)]
    exact Rat.le_of_lt h.okc.2.1
theorem Chn.q_pos {c : Chn} (ok : c.Ok) : ∀ j, j < c.nm → 0 ≤ c.q j := fun j hj => Rat.le_of_lt (ok.mv j hj).2.2.2.2.2.1
theorem ValP.step_pos {c : Chn} {r : Rw} (h : ValP c r) {v : Nat → Rat} (hv : ∀ s, 0 ≤ v s) (s : Nat) : 0 ≤ c.stepQ false (valR r) v s := by
  unfold Chn.stepQ
  rw [Chn.act_f]
  exact step_nonneg (fun j hj => (Chn.ft h.okc.1 j hj).2.2) (Chn.q_pos h.okc.1) h.okc.2.1 h.exall hv (fun _ => false) (fun _ _ => rfl) s
theorem ValP.step_sum {c : Chn} {r : Rw} (h : ValP c r) (v : Nat → Rat) : sumN (c.stepQ false (valR r) v) c.nd = sumN v c.nd := by
  unfold Chn.stepQ stepV
  exact stp_sum (Chn.ft h.okc.1)
theorem vec_fz {n : Nat} {R : Nat → Rw} (hR : ∀ k, k < n → okR (R k) ∧ (R k).2.1.length ≤ 4 ∧ (R k).2.2.length ≤ 4) : FzL (n * 4 + 4 + 1) (vecQ n R) :=
  FzL.of_sz (fun s hs => by unfold vecQ; rw [if_pos hs]; exact Sz_valR (hR s hs).1 (by omega) (hR s hs).2.1 (hR s hs).2.2) (fun s hs => by unfold vecQ; rw [if_neg (by omega)]) (by omega)
theorem codeT_0 {c : Chn} {r : Rw} {n : Nat} {R : Nat → Rw} (h : c.codeR r = 0) (hn : n = c.nd) (ha : allV n R = true) : c.codeT r n R = 0 := by
  unfold Chn.codeT
  rw [if_neg (by omega), if_neg (by omega), if_pos ha]
set_option maxHeartbeats 16000000 in
theorem transientSums_law {w : World} {AM AD AV : Option Addr} {cm cd n ca : Nat} {c : Chn} {v : Value} {r : Rw} {R : Nat → Rw} (h : ChI w w.heap.size AM cm AD cd c) (hr : RdS w w.heap.size v r) (hV : RowA w w.heap.size AV n R) :
    Calls Tryz.prog 6 #[cv c.st c.sr AM c.nm cm AD c.nd cd, v, .slice AV n ca] w fun e w' => e = .returned (.bool true) ∧ Below w.heap.size w w' := by
  have KV := Lib.hid (fun W (hb : Below w.heap.size w W) => valid_law (h.below hb) ((hr.kp (Kp.of_below hb)).base hb.size))
  have KB := Lib.hid (fun W (hb : Below w.heap.size w W) => brief_any (c := ca) (hV.below hb))
  have HI := Lib.hid (fun W (hb : Below w.heap.size w W) => h.below hb)
  have HRR := Lib.hid (fun W (hb : Below w.heap.size w W) => (hr.kp (Kp.of_below hb)).base hb.size)
  have HVV := Lib.hid hV
  have HOK := Lib.hid hr.ok
  have HSm := Lib.hid (fun (hf : FewP c) => hf.small h)
  obtain ⟨s0, A0, n0, c0, B0, m0, d0, rfl⟩ := hr.form
  have hbA : Below w.heap.size w ((w.alloc (.cells #[.int .i64 c.st, .int .i64 c.sr, .slice AM c.nm cm, .slice AD c.nd cd] 25)).alloc (.cells #[.bool s0, .slice A0 n0 c0, .slice B0 m0 d0] 28)) := ((Below.refl _ _).alloc (Nat.le_refl _) _).alloc (by simp) _
  have HBA := Lib.hid hbA
  clear h hr hV hbA
  go_enter Tryz.func6, Tryz.ntmps6
  (go_wp2_with fail; (with_reducible refine (KV.out _ HBA.out).mono ?_); rintro e w1 ⟨⟨bb, rfl, hbb⟩, hb1⟩; have hb1z := Below.size hb1; (try simp only [World.size_alloc, World.size_setCell, World.size_drew, size_drewN'] at hb1z); have hb1c0 := fun o => below_at hb1 (w.heap.size) o (by first | omega | (simp only [World.size_alloc, World.size_setCell, World.size_drew, size_drewN']; omega)); have hb1f0 := fun o => below_fr hb1 (w.heap.size) o (by first | omega | (simp only [World.size_alloc, World.size_setCell, World.size_drew, size_drewN']; omega)); have hb1c1 := fun o => below_at hb1 (w.heap.size + 1) o (by first | omega | (simp only [World.size_alloc, World.size_setCell, World.size_drew, size_drewN']; omega)); have hb1f1 := fun o => below_fr hb1 (w.heap.size + 1) o (by first | omega | (simp only [World.size_alloc, World.size_setCell, World.size_drew, size_drewN']; omega)))
  have hB1 : Below w.heap.size w w1 := HBA.out.trans (hb1.mono (by simp; omega))
  cases bb with
  | false =>
    clear hbb
    (go_wp2_with fail; (with_reducible refine (awake_any _).mono ?_); rintro e w2 ⟨rfl, hb2⟩; have hb2z := Below.size hb2; (try simp only [World.size_alloc, World.size_setCell, World.size_drew, size_drewN'] at hb2z))
    go_wp2
    go_ret
    exact ⟨rfl, hB1.trans (hb2.mono hB1.size)⟩
  | true =>
    have HP := Lib.hid (hbb rfl)
    clear hbb
    have hz1 := hB1.size
    (go_wp2_with fail; (with_reducible refine (KB.out _ hB1).mono ?_); rintro e w2 ⟨⟨b2, rfl, hb2'⟩, hb2⟩; have hb2z := Below.size hb2; (try simp only [World.size_alloc, World.size_setCell, World.size_drew, size_drewN'] at hb2z); have hb2c0 := fun o => below_at hb2 (w.heap.size) o (by first | omega | (simp only [World.size_alloc, World.size_setCell, World.size_drew, size_drewN']; omega)); have hb2f0 := fun o => below_fr hb2 (w.heap.size) o (by first | omega | (simp only [World.size_alloc, World.size_setCell, World.size_drew, size_drewN']; omega)); have hb2c1 := fun o => below_at hb2 (w.heap.size + 1) o (by first | omega | (simp only [World.size_alloc, World.size_setCell, World.size_drew, size_drewN']; omega)); have hb2f1 := fun o => below_fr hb2 (w.heap.size + 1) o (by first | omega | (simp only [World.size_alloc, World.size_setCell, World.size_drew, size_drewN']; omega)))
    have hB2 : Below w.heap.size w w2 := hB1.trans (hb2.mono hB1.size)
    cases b2 with
    | false =>
      clear hb2'
      (go_wp2_with fail; (with_reducible refine (awake_any _).mono ?_); rintro e w3 ⟨rfl, hb3⟩; have hb3z := Below.size hb3; (try simp only [World.size_alloc, World.size_setCell, World.size_drew, size_drewN'] at hb3z))
      go_wp2
      go_ret
      exact ⟨rfl, hB2.trans (hb3.mono hB2.size)⟩
    | true =>
      have HVB := Lib.hid (hb2' rfl)
      clear hb2'
      have ok := HP.out.okc.1
      have hst := ok.st
      by_cases hn : n = c.nd
      · have e1 : ((n : Int) != c.st) = false := by rw [hst, hn]; simp
        have HN := Lib.hid hn
        clear hn hst ok
        have hn9 : n ≤ 300 := HVB.out.1
        (go_wp2_with fail; (with_reducible refine (awake_any _).mono ?_); rintro e w3 ⟨rfl, hb3⟩; have hb3z := Below.size hb3; (try simp only [World.size_alloc, World.size_setCell, World.size_drew, size_drewN'] at hb3z); have hb3c0 := fun o => below_at hb3 (w.heap.size) o (by first | omega | (simp only [World.size_alloc, World.size_setCell, World.size_drew, size_drewN']; omega)); have hb3f0 := fun o => below_fr hb3 (w.heap.size) o (by first | omega | (simp only [World.size_alloc, World.size_setCell, World.size_drew, size_drewN']; omega)); have hb3c1 := fun o => below_at hb3 (w.heap.size + 1) o (by first | omega | (simp only [World.size_alloc, World.size_setCell, World.size_drew, size_drewN']; omega)); have hb3f1 := fun o => below_fr hb3 (w.heap.size + 1) o (by first | omega | (simp only [World.size_alloc, World.size_setCell, World.size_drew, size_drewN']; omega)))
        have hB3 : Below w.heap.size w w3 := hB2.trans (hb3.mono hB2.size)
        have hw3 : w.heap.size + 1 < w3.heap.size := by have := hb1.size; have := hb2.size; have := hb3.size; simp at *; omega
        have y0 : w3.cell? ⟨w.heap.size, 0, none⟩ = some (.int .i64 c.st) := by rw [hb3c0, hb2c0, hb1c0]; simp
        have y1 : w3.cell? ⟨w.heap.size, 1, none⟩ = some (.int .i64 c.sr) := by rw [hb3c0, hb2c0, hb1c0]; simp
        have y2 : w3.cell? ⟨w.heap.size, 2, none⟩ = some (.slice AM c.nm cm) := by rw [hb3c0, hb2c0, hb1c0]; simp
        have y3 : w3.cell? ⟨w.heap.size, 3, none⟩ = some (.slice AD c.nd cd) := by rw [hb3c0, hb2c0, hb1c0]; simp
        have y4 : w3.cell? ⟨w.heap.size + 1, 0, none⟩ = some (.bool s0) := by rw [hb3c1, hb2c1, hb1c1]; simp
        have y5 : w3.cell? ⟨w.heap.size + 1, 1, none⟩ = some (.slice A0 n0 c0) := by rw [hb3c1, hb2c1, hb1c1]; simp
        have y6 : w3.cell? ⟨w.heap.size + 1, 2, none⟩ = some (.slice B0 m0 d0) := by rw [hb3c1, hb2c1, hb1c1]; simp
        clear hb1c0 hb1c1 hb2c0 hb2c1 hb3c0 hb3c1 hb1f0 hb1f1 hb2f0 hb2f1 hb3f0 hb3f1
        go_wp2
        go_loopw [37, 7] (fun i lo wr => ∃ (k : Nat) (b : Bool), k ≤ n ∧ i = .int .i64 (k : Int) ∧ lo = .bool b ∧ (∀ j, j < k → validR (R j) = true) ∧ (b = false → ∀ j, j < k → 0 ≤ valR (R j)) ∧ Below w3.heap.size w3 wr) (fun i _ _ => n - (intOf i).toNat)
        case atStart => exact ⟨0, false, Nat.zero_le _, rfl, rfl, fun j hj => by omega, fun _ j hj => by omega, Below.refl _ _⟩
        case round =>
          obtain ⟨k, b, hk, rfl, rfl, hv, hl, hb⟩ := hrel
          have HV1 := Lib.hid hv
          have HL1 := Lib.hid hl
          clear hv hl
          have hbz := hb.size
          have hbw : Below w.heap.size w wr := hB3.trans (hb.mono (by omega))
          by_cases hlt : k < n
          · obtain ⟨bx, ox, s1, A1, n1, c1, B1, m1, d1, rfl, hbx, f0, f1, f2, r1⟩ := HVV.out.at_ hlt
            obtain ⟨l1, l2⟩ := HVB.out.2 k hlt
            have x0 := (hbw.cell (lt_of_cell f0)).trans f0
            have x1 := (hbw.cell (lt_of_cell f1)).trans f1
            have x2 := (hbw.cell (lt_of_cell f2)).trans f2
            have KVl := Lib.hid (fun W (hb' : Below wr.heap.size wr W) => rvalidS (r1.kp (Kp.of_below (hbw.trans (hb'.mono hbw.size)))) (by omega) (by omega))
            have KSg := Lib.hid (fun W z (hb' : Below wr.heap.size wr W) (hz : sgnQ (valR (R k)) = z) => rsignS (r1.kp (Kp.of_below (hbw.trans (hb'.mono hbw.size)))) (by omega) (by omega) hz)
            have hk0 : (0 : Int) ≤ (k : Int) := by omega
            have hki : (k : Int) < (n : Int) := by omega
            clear f0 f1 f2 r1 l1 l2
            cases hvv : validR (R k)
            · rw [hvv] at KVl
              clear hvv
              (go_wp2_with fail; (with_reducible refine (KVl.out _ (by (skip); repeat' (first | (with_reducible exact Below.refl _ _) | (with_reducible assumption) | (with_reducible refine Below.alloc ?_ ?_ _) | (with_reducible refine Below.drew ?_) | (with_reducible refine below_drewN ?_ _) | (with_reducible refine Below.setCell ?_ ?_ _) | (with_reducible refine Below.trans ?_ (Below.mono (by with_reducible assumption) ?_)) | omega | (simp only [World.size_alloc, World.size_setCell, World.size_drew, size_drewN']; omega) | go_size))).mono ?_); rintro e w4 ⟨rfl, hb4⟩; have hb4z := Below.size hb4; (try simp only [World.size_alloc, World.size_setCell, World.size_drew, size_drewN'] at hb4z))
              go_wp2
              go_ret
              exact ⟨rfl, hbw.trans (Below.mono ((by have z0 := Below.size hb4; (try simp only [World.size_alloc, World.size_setCell, World.size_drew, size_drewN'] at z0 ⊢; skip); repeat' (first | (with_reducible exact Below.refl _ _) | (with_reducible assumption) | (with_reducible refine Below.alloc ?_ ?_ _) | (with_reducible refine Below.drew ?_) | (with_reducible refine below_drewN ?_ _) | (with_reducible refine Below.setCell ?_ ?_ _) | (with_reducible refine Below.trans ?_ (Below.mono (by with_reducible assumption) ?_)) | omega | (simp only [World.size_alloc, World.size_setCell, World.size_drew, size_drewN']; omega) | go_size)) : Below wr.heap.size wr w4) hbw.size)⟩
            · have HVk := Lib.hid hvv
              rw [hvv] at KVl
              clear hvv
              cases b with
              | true =>
                (go_wp2_with fail; (with_reducible refine (KVl.out _ (by (skip); repeat' (first | (with_reducible exact Below.refl _ _) | (with_reducible assumption) | (with_reducible refine Below.alloc ?_ ?_ _) | (with_reducible refine Below.drew ?_) | (with_reducible refine below_drewN ?_ _) | (with_reducible refine Below.setCell ?_ ?_ _) | (with_reducible refine Below.trans ?_ (Below.mono (by with_reducible assumption) ?_)) | omega | (simp only [World.size_alloc, World.size_setCell, World.size_drew, size_drewN']; omega) | go_size))).mono ?_); rintro e w4 ⟨rfl, hb4⟩; have hb4z := Below.size hb4; (try simp only [World.size_alloc, World.size_setCell, World.size_drew, size_drewN'] at hb4z); have hb4c0 := fun o => below_at hb4 (wr.heap.size) o (by first | omega | (simp only [World.size_alloc, World.size_setCell, World.size_drew, size_drewN']; omega)); have hb4f0 := fun o => below_fr hb4 (wr.heap.size) o (by first | omega | (simp only [World.size_alloc, World.size_setCell, World.size_drew, size_drewN']; omega)))
                have h49 : Below wr.heap.size wr w4 := ((Below.refl _ _).alloc (Nat.le_refl _) _).trans (hb4.mono (by simp))
                go_wp2
                go_roundw
                case rel =>
                  refine ⟨k + 1, true, by omega, by go_num, rfl, fun j hj => ?_, (fun h => nomatch h), hb.trans (h49.mono hbz)⟩
                  by_cases e : j = k
                  · rw [e]; exact HVk.out
                  · exact HV1.out j (by omega)
                case measure => simp [intOf]; omega
              | false =>
                have hz9 : ∃ z : Int, sgnQ (valR (R k)) = z ∧ (0 ≤ z → 0 ≤ valR (R k)) := ⟨_, rfl, fun hz => by
                  by_cases hq : valR (R k) < 0
                  · rw [sgn_neg hq] at hz; omega
                  · exact Rat.not_lt.1 hq⟩
                obtain ⟨z, hz1, hz2⟩ := hz9
                have KS9 := Lib.hid (fun W hb' => KSg.out W z hb' hz1)
                have HZ2 := Lib.hid hz2
                clear hz1 hz2
                (go_wp2_with fail; (with_reducible refine (KVl.out _ (by (skip); repeat' (first | (with_reducible exact Below.refl _ _) | (with_reducible assumption) | (with_reducible refine Below.alloc ?_ ?_ _) | (with_reducible refine Below.drew ?_) | (with_reducible refine below_drewN ?_ _) | (with_reducible refine Below.setCell ?_ ?_ _) | (with_reducible refine Below.trans ?_ (Below.mono (by with_reducible assumption) ?_)) | omega | (simp only [World.size_alloc, World.size_setCell, World.size_drew, size_drewN']; omega) | go_size))).mono ?_); rintro e w4 ⟨rfl, hb4⟩; have hb4z := Below.size hb4; (try simp only [World.size_alloc, World.size_setCell, World.size_drew, size_drewN'] at hb4z); have hb4c0 := fun o => below_at hb4 (wr.heap.size) o (by first | omega | (simp only [World.size_alloc, World.size_setCell, World.size_drew, size_drewN']; omega)); have hb4f0 := fun o => below_fr hb4 (wr.heap.size) o (by first | omega | (simp only [World.size_alloc, World.size_setCell, World.size_drew, size_drewN']; omega)))
                have h49 : Below wr.heap.size wr w4 := ((Below.refl _ _).alloc (Nat.le_refl _) _).trans (hb4.mono (by simp))
                (go_wp2_with fail; (with_reducible refine (KS9.out _ h49).mono ?_); rintro e w5 ⟨rfl, hb5⟩; have hb5z := Below.size hb5; (try simp only [World.size_alloc, World.size_setCell, World.size_drew, size_drewN'] at hb5z))
                have h59 := h49.trans (hb5.mono h49.size)
                by_cases hz0 : z < 0
                · have e5 : decide (z < 0) = true := by simpa using hz0
                  clear hz0
                  go_wp2
                  go_roundw
                  case rel =>
                    refine ⟨k + 1, true, by omega, by go_num, rfl, fun j hj => ?_, (fun h => nomatch h), hb.trans (h59.mono hbz)⟩
                    by_cases e : j = k
                    · rw [e]; exact HVk.out
                    · exact HV1.out j (by omega)
                  case measure => simp [intOf]; omega
                · have e5 : decide (z < 0) = false := by simpa using hz0
                  have HQ0 := Lib.hid (HZ2.out (by omega))
                  clear hz0
                  go_wp2
                  go_roundw
                  case rel =>
                    refine ⟨k + 1, false, by omega, by go_num, rfl, fun j hj => ?_, fun _ j hj => ?_, hb.trans (h59.mono hbz)⟩
                    · by_cases e : j = k
                      · rw [e]; exact HVk.out
                      · exact HV1.out j (by omega)
                    · by_cases e : j = k
                      · rw [e]; exact HQ0.out
                      · exact HL1.out (by simp) j (by omega)
                  case measure => simp [intOf]; omega
          · have hkn : k = n := by omega
            subst hkn
            have hall := allV_yes HV1.out
            have hct : c.codeT r k R = 0 := codeT_0 HP.out.code HN.out hall
            have hS := HSm.out HP.out.few
            have hstp := hS.stepS (n := k) (R := R) HOK.out HP.out.l1 HP.out.l2 (fun j hj => ⟨HVV.out.okR' hj, HVB.out.2 j hj⟩)
            have hfz := vec_fz (n := k) (R := R) (fun j hj => ⟨HVV.out.okR' hj, HVB.out.2 j hj⟩)
            have hnd9 := hS.nd HP.out.okc.1
            have hfx : FzL 100 (c.stepQ false (valR r) (vecQ k R)) := (hfz.step (hS.rts HP.out.okc.1) HP.out.okc.2.1 (Sz_valR HOK.out (by omega) HP.out.l1 HP.out.l2)).more (by have := HN.out; omega)
            have hfv : FzL 100 (vecQ k R) := hfz.more (by have := HN.out; omega)
            obtain ⟨x, hx⟩ : ∃ x, x = c.stepQ false (valR r) (vecQ k R) := ⟨_, rfl⟩
            obtain ⟨u, hu⟩ : ∃ u, u = vecQ k R := ⟨_, rfl⟩
            have hsum : sumN x k = sumN u k := by rw [hx, hu, HN.out]; exact HP.out.step_sum _
            have hpos : b = false → ∀ j, 0 ≤ x j := fun h0 j => by
              rw [hx]
              refine HP.out.step_pos (fun s => ?_) j
              unfold vecQ
              split
              · exact HL1.out h0 s (by assumption)
              · exact Rat.le_refl
            have KS : Hid (∀ W, Below w.heap.size w W → Calls Tryz.prog 25 #[cv c.st c.sr AM c.nm cm AD c.nd cd, rv s0 A0 n0 c0 B0 m0 d0, .slice AV k ca] W fun e w' => (∃ A c, e = .returned (.tuple #[.slice A k c, .nilIface]) ∧ RowA w' w'.heap.size A k (can x)) ∧ Below W.heap.size W w') := fun W hb => (Step_any (HI.out W hb) hS.chS (HRR.out W hb) HP.out.l1 HP.out.l2 ((HVV.out.below hb).up hb.size) HVB.out.short (by omega) hstp).mono fun e w' h => ⟨by
              have h1 := h.1.out h.2.size
              rw [hct] at h1
              rw [hx]
              exact h1, h.2⟩
            rw [← hx] at hfx
            rw [← hu] at hfv
            have hsx : ∀ j, Sz 400 (sumN x j) ∨ 300 < j := fun j => by
              by_cases h9 : j ≤ 300
              · exact .inl ((hfx.sum (by omega)).more (by omega))
              · exact .inr (by omega)
            have K5 := Lib.hid (fun W A cc (hv : RowA W W.heap.size A k (can x)) => sum_law (ca := cc) hv (by omega) (fun j hj => (hfx.sum (by omega)).more (by omega)) (fun j _ => (hfx.sz (by omega) j).more (by omega)))
            have hVu : RowA w w.heap.size AV k (can u) := by rw [hu]; exact HVV.out.can_ hall
            have K6 := Lib.hid (fun W (hb : Below w.heap.size w W) => sum_law (ca := ca) (hVu.below hb) (by omega) (fun j hj => (hfv.sum (by omega)).more (by omega)) (fun j _ => (hfv.sz (by omega) j).more (by omega)))
            have K7 := Lib.hid (fun W v1 v2 (h1 : RdS W 0 v1 (canR (sumN x k))) (h2 : RdS W 0 v2 (canR (sumN u k))) => cmpS h1 h2 ((hfx.sum (show k < 4294967296 by omega)).more (show 101 ≤ 400 by omega)) ((hfv.sum (show k < 4294967296 by omega)).more (show 101 ≤ 400 by omega)) (by omega) (by omega) (z := 0) (by rw [hsum, Rat.sub_self]; rfl))
            have hxs : ∀ j, Sz 400 (x j) := fun j => (hfx.sz (by omega) j).more (by omega)
            have HXS := Lib.hid hxs
            have HPOS := Lib.hid hpos
            have tv : ∀ {b o : Nat} {v : Value}, b < w.heap.size + 2 → w3.cell? ⟨b, o, none⟩ = some v → wr.cell? ⟨b, o, none⟩ = some v := fun hb9 h => (hb.cell (p := ⟨_, _, none⟩) (Nat.lt_of_lt_of_le hb9 (by omega))).trans h
            have z0 := tv (by omega) y0
            have z1 := tv (by omega) y1
            have z2 := tv (by omega) y2
            have z3 := tv (by omega) y3
            have z4 := tv (by omega) y4
            have z5 := tv (by omega) y5
            have z6 := tv (by omega) y6
            have hwr9 : w.heap.size + 1 < wr.heap.size := by omega
            clear hall hct hS hstp hfz hfx hfv hx hu hsum hpos hsx hVu hxs y0 y1 y2 y3 y4 y5 y6 tv
            (go_wp2_with fail; (with_reducible refine (KS.out _ hbw).mono ?_); rintro e w4 ⟨⟨A4, c4, rfl, r4⟩, hb4⟩; have hb4z := Below.size hb4; (try simp only [World.size_alloc, World.size_setCell, World.size_drew, size_drewN'] at hb4z); have hb4c0 := fun o => below_at hb4 (w.heap.size) o (by first | omega | (simp only [World.size_alloc, World.size_setCell, World.size_drew, size_drewN']; omega)); have hb4f0 := fun o => below_fr hb4 (w.heap.size) o (by first | omega | (simp only [World.size_alloc, World.size_setCell, World.size_drew, size_drewN']; omega)))
            have hB4 : Below w.heap.size w w4 := hbw.trans (hb4.mono hbw.size)
            have HR4 := Lib.hid r4
            clear r4
            (go_wp2_with fail; (with_reducible refine (K5.out _ _ c4 HR4.out).mono ?_); rintro e w5 ⟨⟨v5, rfl, r5⟩, hb5⟩; have hb5z := Below.size hb5; (try simp only [World.size_alloc, World.size_setCell, World.size_drew, size_drewN'] at hb5z))
            obtain ⟨s5, A5, n5, c5, B5, m5, d5, rfl⟩ := r5.form
            have hB5 : Below w.heap.size w w5 := hB4.trans (hb5.mono hB4.size)
            (go_wp2_with fail; (with_reducible refine (K6.out _ hB5).mono ?_); rintro e w6 ⟨⟨v6, rfl, r6⟩, hb6⟩; have hb6z := Below.size hb6; (try simp only [World.size_alloc, World.size_setCell, World.size_drew, size_drewN'] at hb6z))
            obtain ⟨s6, A6, n6, c6, B6, m6, d6, rfl⟩ := r6.form
            have hB6 : Below w.heap.size w w6 := hB5.trans (hb6.mono hB5.size)
            (go_wp2_with fail; (with_reducible refine (K7.out _ _ _ (r5.kp (Kp.of_below hb6)) r6).mono ?_); rintro e w7 ⟨rfl, hb7⟩; have hb7z := Below.size hb7; (try simp only [World.size_alloc, World.size_setCell, World.size_drew, size_drewN'] at hb7z))
            have hB7 : Below w.heap.size w w7 := hB6.trans (hb7.mono hB6.size)
            have h47 : Below w4.heap.size w4 w7 := (hb5.trans (hb6.mono hb5.size)).trans (hb7.mono (by have := hb5.size; have := hb6.size; omega))
            have HX7 := Lib.hid (HR4.out.below h47)
            have HB7 := Lib.hid hB7
            clear r5 r6 hB7 h47 hB4 hB5 hB6
            go_wp2
            go_loopw [77] (fun i wr => ∃ j : Nat, j ≤ k ∧ i = .int .i64 (j : Int) ∧ Below w7.heap.size w7 wr) (fun i _ => k - (intOf i).toNat)
            case atStart => exact ⟨0, Nat.zero_le _, rfl, Below.refl _ _⟩
            case round =>
              obtain ⟨j, hj, rfl, hb9⟩ := hrel
              have hB9 : Below w.heap.size w _ := HB7.out.trans (hb9.mono HB7.out.size)
              by_cases hlj : j < k
              · obtain ⟨bx, ox, s1, A1, n1, c1, B1, m1, d1, rfl, hbx, f0, f1, f2, r1⟩ := HX7.out.at_ hlj
                have x0 := (hb9.cell (lt_of_cell f0)).trans f0
                have x1 := (hb9.cell (lt_of_cell f1)).trans f1
                have x2 := (hb9.cell (lt_of_cell f2)).trans f2
                have hki : (j : Int) < (k : Int) := by omega
                have hk0 : (0 : Int) ≤ (j : Int) := by omega
                cases b with
                | true =>
                  clear f0 f1 f2 r1
                  go_wp2
                  go_roundw
                  case rel => exact ⟨j + 1, by omega, by go_num, hb9.trans ((Below.refl _ _).alloc hb9.size _)⟩
                  case measure => simp [intOf]; omega
                | false =>
                  have hq0 := HPOS.out rfl j
                  have hz9 : ∃ z : Int, 0 ≤ z ∧ sgnQ (x j) = z := by
                    by_cases e : x j = 0
                    · exact ⟨0, by omega, by rw [e]; rfl⟩
                    · exact ⟨1, by omega, sgn_pos (by grind)⟩
                  obtain ⟨z, hz0, hz1⟩ := hz9
                  have e5 : decide (z < 0) = false := by simp; omega
                  have KQ := Lib.hid (fun W (hb : Below w7.heap.size w7 W) => (by
                    have := signQ ((r1.kp (Kp.of_below hb)).canQ (HXS.out j)) (by omega) (by omega)
                    rw [hz1] at this
                    exact this : Calls Tryz.prog 33 #[rv s1 A1 n1 c1 B1 m1 d1] W fun e w' => e = .returned (.int .i64 z) ∧ Below W.heap.size W w'))
                  clear f0 f1 f2 r1 hq0 hz1
                  (go_wp2_with fail; (with_reducible refine (KQ.out _ (hb9.trans ((Below.refl _ _).alloc hb9.size _))).mono ?_); rintro e w10 ⟨rfl, hb10⟩; have hb10z := Below.size hb10; (try simp only [World.size_alloc, World.size_setCell, World.size_drew, size_drewN'] at hb10z))
                  go_wp2
                  go_roundw
                  case rel => exact ⟨j + 1, by omega, by go_num, (hb9.trans ((Below.refl _ _).alloc hb9.size _)).trans (hb10.mono (by have := hb9.size; simp; omega))⟩
                  case measure => simp [intOf]; omega
              · go_wp2
                go_ret
                exact ⟨rfl, hB9⟩
      · have e1 : ((n : Int) != c.st) = true := by rw [hst, bne_iff_ne]; omega
        clear hn hst ok
        (go_wp2_with fail; (with_reducible refine (awake_any _).mono ?_); rintro e w3 ⟨rfl, hb3⟩; have hb3z := Below.size hb3; (try simp only [World.size_alloc, World.size_setCell, World.size_drew, size_drewN'] at hb3z))
        go_wp2
        go_ret
        exact ⟨rfl, hB2.trans (hb3.mono hB2.size)⟩
end Go.Proofs.YtemejneabpjfhaaGreatDoor
