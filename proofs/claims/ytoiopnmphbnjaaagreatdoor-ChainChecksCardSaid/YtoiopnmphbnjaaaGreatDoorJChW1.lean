/- Contracts of functions and lemmas, used by the proofs of the given statements. No condition beyond those that each lemma names. -/
import Derived.Test.YtoiopnmphbnjaaaGreatDoorJLinO
import Derived.Test.YtoiopnmphbnjaaaGreatDoorJBase
namespace Go.Proofs.YtoiopnmphbnjaaaGreatDoor
open Go.RowKit
set_option linter.unusedSimpArgs false
set_option linter.unusedVariables false
set_option maxRecDepth 20000
attribute [local irreducible] nv wp win plainB validR valR canR
/-! ## Valid, Sign of a fraction that lies there -/
theorem validS {w : World} {b0 : Nat} {v : Value} {r : Rw} (h : RdS w b0 v r) (h1 : r.2.1.length ≤ 1000) (h2 : r.2.2.length ≤ 1000) :
    Calls Tryz.prog 58 #[v] w fun e w' => e = .returned (.bool (validR r)) ∧ Below w.heap.size w w' := by
  obtain ⟨A, c, B, d, rfl, c1, c2, ok, rA, rB, _, _⟩ := h
  exact valid_any _ _ _ _ _ _ _ _ _ w rfl rfl (by omega) (by omega) c1 c2 ok.1 ok.2 rA rB
theorem rvalidS {w : World} {b0 : Nat} {v : Value} {r : Rw} (h : RdS w b0 v r) (h1 : r.2.1.length ≤ 1000) (h2 : r.2.2.length ≤ 1000) :
    Calls Tryz.prog 78 #[v] w fun e w' => e = .returned (.bool (validR r)) ∧ Below w.heap.size w w' := by
  obtain ⟨A, c, B, d, rfl, c1, c2, ok, rA, rB, _, _⟩ := h
  exact rvalid_any _ _ _ _ _ _ _ w (by omega) (by omega) c1 c2 ok.1 ok.2 rA rB
theorem signS {w : World} {b0 : Nat} {v : Value} {r : Rw} {z : Int} (h : RdS w b0 v r) (h1 : r.2.1.length ≤ 1000) (h2 : r.2.2.length ≤ 1000) (hz : sgnQ (valR r) = z) :
    Calls Tryz.prog 23 #[v] w fun e w' => e = .returned (.int .i64 z) ∧ Below w.heap.size w w' := by
  subst hz
  exact signQ (h.rdq (L := 1000) h1 h2) (by omega) (by omega)
theorem rsignS {w : World} {b0 : Nat} {v : Value} {r : Rw} {z : Int} (h : RdS w b0 v r) (h1 : r.2.1.length ≤ 1000) (h2 : r.2.2.length ≤ 1000) (hz : sgnQ (valR r) = z) :
    Calls Tryz.prog 54 #[v] w fun e w' => e = .returned (.int .i64 z) ∧ Below w.heap.size w w' := by
  subst hz
  exact rsignQ (h.rdq (L := 1000) h1 h2) (by omega) (by omega)
theorem sgn_pos {q : Rat} (h : 0 < q) : sgnQ q = 1 := by
  unfold sgnQ
  rw [if_neg (fun e => by rw [e] at h; exact absurd h (by decide)), if_neg (Rat.not_lt.2 (Rat.le_of_lt h))]
theorem sgn_neg {q : Rat} (h : q < 0) : sgnQ q = -1 := by
  unfold sgnQ
  rw [if_neg (fun e => by rw [e] at h; exact absurd h (by decide)), if_pos h]
theorem sgn_le {q : Rat} (h : ¬ 0 < q) : sgnQ q = 0 ∨ sgnQ q = -1 := by
  by_cases h0 : q = 0
  · rw [h0]; exact .inl rfl
  · exact .inr (sgn_neg (by grind))
/-! ## package chain: state, before -/
section
variable {st sr s : Int} {AM AD : Option Addr} {nm cm nd cd : Nat}
theorem state_yes (w : World) (h0 : 0 ≤ s) (h1 : s < st) : Calls Tryz.prog 57 #[cv st sr AM nm cm AD nd cd, .int .i64 s] w fun e w' => e = .returned (.bool true) ∧ Below w.heap.size w w' := by
  have e1 : decide (0 ≤ s) = true := by simpa using h0
  go_enter Tryz.func57, Tryz.ntmps57
  go_wp2
  go_ret
  exact ⟨rfl, (Below.refl _ _).alloc (Nat.le_refl _) _⟩
theorem state_no (w : World) (h : s < 0 ∨ st ≤ s) : Calls Tryz.prog 57 #[cv st sr AM nm cm AD nd cd, .int .i64 s] w fun e w' => e = .returned (.bool false) ∧ Below w.heap.size w w' := by
  by_cases h0 : s < 0
  · have e1 : decide (0 ≤ s) = false := by simpa using h0
    clear h
    go_enter Tryz.func57, Tryz.ntmps57
    go_wp2
    go_ret
    exact ⟨rfl, (Below.refl _ _).alloc (Nat.le_refl _) _⟩
  · have e1 : decide (0 ≤ s) = true := by simpa using h0
    have h2 : decide (s < st) = false := by simp; omega
    clear h
    go_enter Tryz.func57, Tryz.ntmps57
    go_wp2
    go_ret
    exact ⟨rfl, (Below.refl _ _).alloc (Nat.le_refl _) _⟩
end
section
variable {f t f' t' : Int} {s s' : Bool} {A B A' B' : Option Addr} {n c m d n' c' m' d' : Nat}
theorem before_yes (w : World) (h : f < f' ∨ f = f' ∧ t < t') : Calls Tryz.prog 59 #[.agg #[.int .i64 f, .int .i64 t, .bool s, .slice A n c, .slice B m d], .agg #[.int .i64 f', .int .i64 t', .bool s', .slice A' n' c', .slice B' m' d']] w fun e w' => e = .returned (.bool true) ∧ Below w.heap.size w w' := by
  by_cases h0 : f < f'
  · have e1 : decide (f < f') = true := by simpa using h0
    clear h
    go_enter Tryz.func59, Tryz.ntmps59
    go_wp2
    go_ret
    exact ⟨rfl, ((Below.refl _ _).alloc (Nat.le_refl _) _).alloc (by simp) _⟩
  · obtain rfl : f = f' := by omega
    have e1 : decide (f < f) = false := by simp
    have e2 : decide (t < t') = true := by simp; omega
    clear h h0
    go_enter Tryz.func59, Tryz.ntmps59
    go_wp2
    go_ret
    exact ⟨rfl, ((Below.refl _ _).alloc (Nat.le_refl _) _).alloc (by simp) _⟩
theorem before_no (w : World) (h : ¬ (f < f' ∨ f = f' ∧ t < t')) : Calls Tryz.prog 59 #[.agg #[.int .i64 f, .int .i64 t, .bool s, .slice A n c, .slice B m d], .agg #[.int .i64 f', .int .i64 t', .bool s', .slice A' n' c', .slice B' m' d']] w fun e w' => e = .returned (.bool false) ∧ Below w.heap.size w w' := by
  have e1 : decide (f < f') = false := by simp; omega
  by_cases h0 : f = f'
  · subst h0
    have e2 : decide (t < t') = false := by simp; omega
    clear h
    go_enter Tryz.func59, Tryz.ntmps59
    go_wp2
    go_ret
    exact ⟨rfl, ((Below.refl _ _).alloc (Nat.le_refl _) _).alloc (by simp) _⟩
  · have e2 : (f == f') = false := by simpa using h0
    clear h
    go_enter Tryz.func59, Tryz.ntmps59
    go_wp2
    go_ret
    exact ⟨rfl, ((Below.refl _ _).alloc (Nat.le_refl _) _).alloc (by simp) _⟩
end
end Go.Proofs.YtoiopnmphbnjaaaGreatDoor
namespace Go.Proofs.YtoiopnmphbnjaaaGreatDoor
open Go.RowKit
set_option linter.unusedSimpArgs false
set_option linter.unusedVariables false
set_option maxRecDepth 20000
attribute [local irreducible] nv wp win plainB validR valR canR mvE chkM codeC
/-! ## package chain: Check -/
/-- short numbers -/
def Short (n : Nat) (R : Nat → Rw) : Prop := ∀ k, k < n → (R k).2.1.length ≤ 1000 ∧ (R k).2.2.length ≤ 1000
theorem valR_no {r : Rw} (h : validR r = false) : ¬ 0 < valR r := by rw [valR_of_not h]; decide
set_option maxHeartbeats 8000000 in
theorem chCheck {w : World} {AM AD : Option Addr} {cm cd : Nat} {c : Chn} (h : ChI w w.heap.size AM cm AD cd c) (hn : c.nm ≤ 1000000) (hz : Short c.nm c.R) :
    Calls Tryz.prog 18 #[cv c.st c.sr AM c.nm cm AD c.nd cd] w fun e w' => e = .returned (errM c.code) ∧ Below w.heap.size w w' := by
  obtain ⟨st, sr, nm, F, T, R, nd, D⟩ := c
  have HM := Lib.hid h.mv.1
  have HZ := Lib.hid hz
  obtain ⟨q, hq⟩ : ∃ q : Nat → Rat, q = Chn.q ⟨st, sr, nm, F, T, R, nd, D⟩ := ⟨_, rfl⟩
  have HQ := Lib.hid (fun k => (by rw [hq]; rfl : q k = valR (R k)))
  obtain ⟨cc, hcc⟩ : ∃ cc, cc = Chn.code ⟨st, sr, nm, F, T, R, nd, D⟩ := ⟨_, rfl⟩
  have HC := Lib.hid (hcc.trans (by unfold Chn.code; rw [← hq] : _ = codeC st sr nm F T q nd))
  rw [← hcc]
  simp only at hn ⊢
  clear h hz hq hcc
  have hbA : ∀ o, Below w.heap.size w (w.alloc o) := fun o => (Below.refl _ _).alloc (Nat.le_refl _) o
  by_cases h1 : st < 1 ∨ 256 < st
  · have HE := Lib.hid (HC.out.trans (codeC_3 h1))
    by_cases h2 : st < 1
    · have e1 : decide (st < 1) = true := by simpa using h2
      clear h1
      go_enter Tryz.func18, Tryz.ntmps18
      go_wp2
      go_ret
      exact ⟨by rw [HE.out]; rfl, hbA _⟩
    · have e1 : decide (st < 1) = false := by simpa using h2
      have e2 : decide (256 < st) = true := by simp; omega
      clear h1
      go_enter Tryz.func18, Tryz.ntmps18
      go_wp2
      go_ret
      exact ⟨by rw [HE.out]; rfl, hbA _⟩
  · have e1 : decide (st < 1) = false := by simp; omega
    have e2 : decide (256 < st) = false := by simp; omega
    by_cases h2 : (nd : Int) = st
    · have e3 : ((nd : Int) != st) = false := by simp [h2]
      by_cases h3 : sr < 0 ∨ st ≤ sr
      · have HE := Lib.hid (HC.out.trans (codeC_10 h1 h2 h3))
        have HN := Lib.hid h3
        clear h1 h2 h3
        go_enter Tryz.func18, Tryz.ntmps18
        go_wp2_with (first | (go_at_call 57; (with_reducible refine (state_no _ HN.out).mono ?_); rintro e w1 ⟨rfl, hb1⟩; have hb1z := Below.size hb1; (try simp only [ZA, ZS, ZD] at hb1z); have hb1c0 := fun o => below_at hb1 (w.heap.size) o (by first | omega | (simp only [ZA, ZS, ZD]; omega)); have hb1f0 := fun o => below_fr hb1 (w.heap.size) o (by first | omega | (simp only [ZA, ZS, ZD]; omega)); have hb1l0 : w.heap.size < (w1).heap.size := (by omega)) | fail)
        go_ret
        exact ⟨by rw [HE.out]; rfl, (by have z0 := Below.size hb1; (try simp only [ZA, ZS, ZD, ZN] at z0 ⊢; skip); repeat' (first | (with_reducible exact Below.refl _ _) | (with_reducible assumption) | (with_reducible refine Below.alloc ?_ ?_ _) | (with_reducible refine Below.drew ?_) | (with_reducible refine below_drewN ?_ _) | (with_reducible refine Below.setCell ?_ ?_ _) | (with_reducible refine Below.trans ?_ (Below.mono (by with_reducible assumption) ?_)) | omega | (simp only [ZA, ZS, ZD, ZN]; omega) | go_size))⟩
      · have HE := Lib.hid (HC.out.trans (codeC_mv h1 h2 h3))
        have h4 : 0 ≤ sr := by omega
        have h5 : sr < st := by omega
        have h0 : 1 ≤ st := by omega
        obtain ⟨W0, hW0⟩ : ∃ W0, W0 = w.alloc (.cells #[.int .i64 st, .int .i64 sr, .slice AM nm cm, .slice AD nd cd] 32) := ⟨_, rfl⟩
        have hbW : Below w.heap.size w W0 := by rw [hW0]; exact hbA _
        have hWz : W0.heap.size = w.heap.size + 1 := by rw [hW0]; simp
        have g0 : W0.cell? ⟨w.heap.size, 0, none⟩ = some (.int .i64 st) := by rw [hW0]; simp
        have g1 : W0.cell? ⟨w.heap.size, 1, none⟩ = some (.int .i64 sr) := by rw [hW0]; simp
        have g2 : W0.cell? ⟨w.heap.size, 2, none⟩ = some (.slice AM nm cm) := by rw [hW0]; simp
        have g3 : W0.cell? ⟨w.heap.size, 3, none⟩ = some (.slice AD nd cd) := by rw [hW0]; simp
        have HW := Lib.hid hW0
        clear h1 h2 h3 hW0
        go_enter Tryz.func18, Tryz.ntmps18
        go_wp2_with fail
        rw [← HW.out]
        (go_at_call 57; (with_reducible refine (state_yes _ h4 h5).mono ?_); rintro e w1 ⟨rfl, hb1⟩; have hb1z := Below.size hb1; (try simp only [ZA, ZS, ZD] at hb1z); have hb1c0 := fun o => below_at hb1 (w.heap.size) o (by first | omega | (simp only [ZA, ZS, ZD]; omega)); have hb1f0 := fun o => below_fr hb1 (w.heap.size) o (by first | omega | (simp only [ZA, ZS, ZD]; omega)); have hb1l0 : w.heap.size < (w1).heap.size := (by omega))
        go_wp2
        have hb1' : Below (w.heap.size + 1) W0 w1 := hb1.mono (by omega)
        clear hb1 hb1c0 hb1f0 hb1l0 hb1z
        go_loopw [30] (fun i wr => ∃ k : Nat, k ≤ nm ∧ i = .int .i64 (k : Int) ∧ mvE st F T q k = 0 ∧ Below (w.heap.size + 1) W0 wr) (fun i _ => nm - (intOf i).toNat)
        case atStart => exact ⟨0, Nat.zero_le _, rfl, (by unfold mvE; rfl), hb1'⟩
        case round =>
          obtain ⟨k, hk, rfl, hmv, hb⟩ := hrel
          have HMV := Lib.hid hmv
          clear hmv
          have hbz := hb.size
          have hbw : Below w.heap.size w wr := hbW.trans (hb.mono (by omega))
          by_cases hlt : k < nm
          · obtain ⟨b, off, s, A1, n1, c1, B1, m1, d1, rfl, hbb, f0, f1, f2, f3, f4, r0⟩ := HM.out.at_ hlt
            obtain ⟨z1, z2⟩ := HZ.out k hlt
            have r1 := r0.kp (Kp.of_below hbw)
            have tc : ∀ {o : Nat} {v : Value}, w.cell? ⟨b, o, none⟩ = some v → wr.cell? ⟨b, o, none⟩ = some v := fun h => (hbw.cell (lt_of_cell h)).trans h
            have x0 := tc f0
            have x1 := tc f1
            have x2 := tc f2
            have x3 := tc f3
            have x4 := tc f4
            have tv : ∀ {o : Nat} {v : Value}, W0.cell? ⟨w.heap.size, o, none⟩ = some v → wr.cell? ⟨w.heap.size, o, none⟩ = some v := fun h => (hb.cell (p := ⟨w.heap.size, _, none⟩) (by show w.heap.size < _; omega)).trans h
            have y0 := tv g0
            have y1 := tv g1
            have y2 := tv g2
            have y3 := tv g3
            have hk0 : (0 : Int) ≤ (k : Int) := by omega
            have hk1 : (k : Int) < (nm : Int) := by omega
            have HV := Lib.hid (fun W (hb : Below wr.heap.size wr W) => validS (r1.kp (Kp.of_below hb)) z1 z2)
            have HS := Lib.hid (fun W z (hb : Below wr.heap.size wr W) (hz : sgnQ (valR (R k)) = z) => signS (r1.kp (Kp.of_below hb)) z1 z2 hz)
            clear f0 f1 f2 f3 f4 r0 r1 tc tv z1 z2
            have hwl : w.heap.size < wr.heap.size := by omega
            (have olc := fun o i => below_at ((Below.refl wr.heap.size wr).alloc (Nat.le_refl _) o) (w.heap.size) i (by omega)); (have olf := fun o i => below_fr ((Below.refl wr.heap.size wr).alloc (Nat.le_refl _) o) (w.heap.size) i (by omega))
            by_cases hF : F k < 0 ∨ st ≤ F k
            · have HE2 := Lib.hid (HE.out.trans (mvE_err HMV.out (chkM_10 (by omega)) (by omega) hlt))
              have HN := Lib.hid hF
              clear hF
              (go_wp2_with fail; (with_reducible refine (state_no _ HN.out).mono ?_); rintro e w2 ⟨rfl, hb2⟩; have hb2z := Below.size hb2; (try simp only [ZA, ZS, ZD, ZN] at hb2z); have hb2c0 := fun o => below_at hb2 (w.heap.size) o (by first | omega | (simp only [ZA, ZS, ZD, ZN]; omega)); have hb2f0 := fun o => below_fr hb2 (w.heap.size) o (by first | omega | (simp only [ZA, ZS, ZD, ZN]; omega)); have hb2c1 := fun o => below_at hb2 (wr.heap.size) o (by first | omega | (simp only [ZA, ZS, ZD, ZN]; omega)); have hb2f1 := fun o => below_fr hb2 (wr.heap.size) o (by first | omega | (simp only [ZA, ZS, ZD, ZN]; omega)))
              go_wp2
              go_ret
              exact ⟨by rw [HE2.out]; rfl, hbw.trans (by have z0 := Below.size hb2; (try simp only [ZA, ZS, ZD, ZN] at z0 ⊢; skip); repeat' (first | (with_reducible exact Below.refl _ _) | (with_reducible assumption) | (with_reducible refine Below.alloc ?_ ?_ _) | (with_reducible refine Below.drew ?_) | (with_reducible refine below_drewN ?_ _) | (with_reducible refine Below.setCell ?_ ?_ _) | (with_reducible refine Below.trans ?_ (Below.mono (by with_reducible assumption) ?_)) | omega | (simp only [ZA, ZS, ZD, ZN]; omega) | go_size))⟩
            · have hF0 : 0 ≤ F k := by omega
              have hF1 : F k < st := by omega
              by_cases hT : T k < 0 ∨ st ≤ T k
              · have HE2 := Lib.hid (HE.out.trans (mvE_err HMV.out (chkM_10 (by omega)) (by omega) hlt))
                have HN := Lib.hid hT
                clear hT hF
                (go_wp2_with fail; (with_reducible refine (state_yes _ hF0 hF1).mono ?_); rintro e w2 ⟨rfl, hb2⟩; have hb2z := Below.size hb2; (try simp only [ZA, ZS, ZD, ZN] at hb2z); have hb2c0 := fun o => below_at hb2 (w.heap.size) o (by first | omega | (simp only [ZA, ZS, ZD, ZN]; omega)); have hb2f0 := fun o => below_fr hb2 (w.heap.size) o (by first | omega | (simp only [ZA, ZS, ZD, ZN]; omega)); have hb2c1 := fun o => below_at hb2 (wr.heap.size) o (by first | omega | (simp only [ZA, ZS, ZD, ZN]; omega)); have hb2f1 := fun o => below_fr hb2 (wr.heap.size) o (by first | omega | (simp only [ZA, ZS, ZD, ZN]; omega)))
                (go_wp2_with fail; (with_reducible refine (state_no _ HN.out).mono ?_); rintro e w3 ⟨rfl, hb3⟩; have hb3z := Below.size hb3; (try simp only [ZA, ZS, ZD, ZN] at hb3z); have hb3c0 := fun o => below_at hb3 (w.heap.size) o (by first | omega | (simp only [ZA, ZS, ZD, ZN]; omega)); have hb3f0 := fun o => below_fr hb3 (w.heap.size) o (by first | omega | (simp only [ZA, ZS, ZD, ZN]; omega)); have hb3c1 := fun o => below_at hb3 (wr.heap.size) o (by first | omega | (simp only [ZA, ZS, ZD, ZN]; omega)); have hb3f1 := fun o => below_fr hb3 (wr.heap.size) o (by first | omega | (simp only [ZA, ZS, ZD, ZN]; omega)))
                go_wp2
                go_ret
                exact ⟨by rw [HE2.out]; rfl, hbw.trans (by have z0 := Below.size hb2; have z1 := Below.size hb3; (try simp only [ZA, ZS, ZD, ZN] at z0 z1 ⊢; skip); repeat' (first | (with_reducible exact Below.refl _ _) | (with_reducible assumption) | (with_reducible refine Below.alloc ?_ ?_ _) | (with_reducible refine Below.drew ?_) | (with_reducible refine below_drewN ?_ _) | (with_reducible refine Below.setCell ?_ ?_ _) | (with_reducible refine Below.trans ?_ (Below.mono (by with_reducible assumption) ?_)) | omega | (simp only [ZA, ZS, ZD, ZN]; omega) | go_size))⟩
              · have hT0 : 0 ≤ T k := by omega
                have hT1 : T k < st := by omega
                have HFT : Hid (¬ (F k < 0 ∨ st ≤ F k ∨ T k < 0 ∨ st ≤ T k)) := by show ¬ _; omega
                clear hF hT
                by_cases hE : F k = T k
                · have HE2 := Lib.hid (HE.out.trans (mvE_err HMV.out (chkM_2 HFT.out hE) (by omega) hlt))
                  have e5 : (F k == T k) = true := by simpa using hE
                  have hT9 : T k = F k := hE.symm
                  clear hE
                  (go_wp2_with fail; (with_reducible refine (state_yes _ hF0 hF1).mono ?_); rintro e w2 ⟨rfl, hb2⟩; have hb2z := Below.size hb2; (try simp only [ZA, ZS, ZD, ZN] at hb2z); have hb2c0 := fun o => below_at hb2 (w.heap.size) o (by first | omega | (simp only [ZA, ZS, ZD, ZN]; omega)); have hb2f0 := fun o => below_fr hb2 (w.heap.size) o (by first | omega | (simp only [ZA, ZS, ZD, ZN]; omega)); have hb2c1 := fun o => below_at hb2 (wr.heap.size) o (by first | omega | (simp only [ZA, ZS, ZD, ZN]; omega)); have hb2f1 := fun o => below_fr hb2 (wr.heap.size) o (by first | omega | (simp only [ZA, ZS, ZD, ZN]; omega)))
                  (go_wp2_with fail; (with_reducible refine (state_yes _ (by omega) (by omega)).mono ?_); rintro e w3 ⟨rfl, hb3⟩; have hb3z := Below.size hb3; (try simp only [ZA, ZS, ZD, ZN] at hb3z); have hb3c0 := fun o => below_at hb3 (w.heap.size) o (by first | omega | (simp only [ZA, ZS, ZD, ZN]; omega)); have hb3f0 := fun o => below_fr hb3 (w.heap.size) o (by first | omega | (simp only [ZA, ZS, ZD, ZN]; omega)); have hb3c1 := fun o => below_at hb3 (wr.heap.size) o (by first | omega | (simp only [ZA, ZS, ZD, ZN]; omega)); have hb3f1 := fun o => below_fr hb3 (wr.heap.size) o (by first | omega | (simp only [ZA, ZS, ZD, ZN]; omega)))
                  go_wp2
                  go_ret
                  exact ⟨by rw [HE2.out]; rfl, hbw.trans (by have z0 := Below.size hb2; have z1 := Below.size hb3; (try simp only [ZA, ZS, ZD, ZN] at z0 z1 ⊢; skip); repeat' (first | (with_reducible exact Below.refl _ _) | (with_reducible assumption) | (with_reducible refine Below.alloc ?_ ?_ _) | (with_reducible refine Below.drew ?_) | (with_reducible refine below_drewN ?_ _) | (with_reducible refine Below.setCell ?_ ?_ _) | (with_reducible refine Below.trans ?_ (Below.mono (by with_reducible assumption) ?_)) | omega | (simp only [ZA, ZS, ZD, ZN]; omega) | go_size))⟩
                · have e5 : (F k == T k) = false := by simpa using hE
                  have HNE := Lib.hid hE
                  clear hE
                  by_cases hq : 0 < q k
                  · have hv : validR (R k) = true := by
                      cases hv : validR (R k)
                      · exact absurd (HQ.out k ▸ hq) (valR_no hv)
                      · rfl
                    have HV' := Lib.hid (fun W hb => (by have := HV.out W hb; rw [hv] at this; exact this : Calls Tryz.prog 58 #[rv s A1 n1 c1 B1 m1 d1] W fun e w' => e = .returned (.bool true) ∧ Below W.heap.size W w'))
                    have HS' := Lib.hid (fun W hb => HS.out W 1 hb (by rw [← HQ.out]; exact sgn_pos hq))
                    have HQ2 := Lib.hid (Rat.not_le.2 hq)
                    clear hv HV HS hq
                    by_cases hk9 : 0 < k
                    · have e7 : decide ((0 : Int) < (k : Int)) = true := by simp; omega
                      obtain ⟨b', off', s', A', n', c', B', m', d', eb, -, p0, p1, p2, p3, p4, -⟩ := HM.out.at_ (show k - 1 < nm by omega)
                      injection eb with eb
                      injection eb with eb1 eb2
                      subst eb1 eb2
                      have hk2 : (1 : Int) ≤ (k : Int) := by omega
                      have hk3 : (k : Int) - 1 < (nm : Int) := by omega
                      by_cases hO : F (k - 1) < F k ∨ F (k - 1) = F k ∧ T (k - 1) < T k
                      · have HN := Lib.hid (mvE_next HMV.out (chkM_0 HFT.out HNE.out HQ2.out (fun h => h.2 hO)))
                        have HO := Lib.hid hO
                        clear hO
                        (go_wp2_with fail; (with_reducible refine (state_yes _ hF0 hF1).mono ?_); rintro e w2 ⟨rfl, hb2⟩; have hb2z := Below.size hb2; (try simp only [ZA, ZS, ZD, ZN] at hb2z); have hb2c0 := fun o => below_at hb2 (w.heap.size) o (by first | omega | (simp only [ZA, ZS, ZD, ZN]; omega)); have hb2f0 := fun o => below_fr hb2 (w.heap.size) o (by first | omega | (simp only [ZA, ZS, ZD, ZN]; omega)); have hb2c1 := fun o => below_at hb2 (wr.heap.size) o (by first | omega | (simp only [ZA, ZS, ZD, ZN]; omega)); have hb2f1 := fun o => below_fr hb2 (wr.heap.size) o (by first | omega | (simp only [ZA, ZS, ZD, ZN]; omega)))
                        (go_wp2_with fail; (with_reducible refine (state_yes _ hT0 hT1).mono ?_); rintro e w3 ⟨rfl, hb3⟩; have hb3z := Below.size hb3; (try simp only [ZA, ZS, ZD, ZN] at hb3z); have hb3c0 := fun o => below_at hb3 (w.heap.size) o (by first | omega | (simp only [ZA, ZS, ZD, ZN]; omega)); have hb3f0 := fun o => below_fr hb3 (w.heap.size) o (by first | omega | (simp only [ZA, ZS, ZD, ZN]; omega)); have hb3c1 := fun o => below_at hb3 (wr.heap.size) o (by first | omega | (simp only [ZA, ZS, ZD, ZN]; omega)); have hb3f1 := fun o => below_fr hb3 (wr.heap.size) o (by first | omega | (simp only [ZA, ZS, ZD, ZN]; omega)))
                        (go_wp2_with fail; (with_reducible refine (HV'.out _ (by have z0 := Below.size hb2; have z1 := Below.size hb3; (try simp only [ZA, ZS, ZD, ZN] at z0 z1 ⊢; skip); repeat' (first | (with_reducible exact Below.refl _ _) | (with_reducible assumption) | (with_reducible refine Below.alloc ?_ ?_ _) | (with_reducible refine Below.drew ?_) | (with_reducible refine below_drewN ?_ _) | (with_reducible refine Below.setCell ?_ ?_ _) | (with_reducible refine Below.trans ?_ (Below.mono (by with_reducible assumption) ?_)) | omega | (simp only [ZA, ZS, ZD, ZN]; omega) | go_size))).mono ?_); rintro e w4 ⟨rfl, hb4⟩; have hb4z := Below.size hb4; (try simp only [ZA, ZS, ZD, ZN] at hb4z); have hb4c0 := fun o => below_at hb4 (w.heap.size) o (by first | omega | (simp only [ZA, ZS, ZD, ZN]; omega)); have hb4f0 := fun o => below_fr hb4 (w.heap.size) o (by first | omega | (simp only [ZA, ZS, ZD, ZN]; omega)); have hb4c1 := fun o => below_at hb4 (wr.heap.size) o (by first | omega | (simp only [ZA, ZS, ZD, ZN]; omega)); have hb4f1 := fun o => below_fr hb4 (wr.heap.size) o (by first | omega | (simp only [ZA, ZS, ZD, ZN]; omega)))
                        (go_wp2_with fail; (with_reducible refine (HS'.out _ (by have z0 := Below.size hb2; have z1 := Below.size hb3; have z2 := Below.size hb4; (try simp only [ZA, ZS, ZD, ZN] at z0 z1 z2 ⊢; skip); repeat' (first | (with_reducible exact Below.refl _ _) | (with_reducible assumption) | (with_reducible refine Below.alloc ?_ ?_ _) | (with_reducible refine Below.drew ?_) | (with_reducible refine below_drewN ?_ _) | (with_reducible refine Below.setCell ?_ ?_ _) | (with_reducible refine Below.trans ?_ (Below.mono (by with_reducible assumption) ?_)) | omega | (simp only [ZA, ZS, ZD, ZN]; omega) | go_size))).mono ?_); rintro e w5 ⟨rfl, hb5⟩; have hb5z := Below.size hb5; (try simp only [ZA, ZS, ZD, ZN] at hb5z); have hb5c0 := fun o => below_at hb5 (w.heap.size) o (by first | omega | (simp only [ZA, ZS, ZD, ZN]; omega)); have hb5f0 := fun o => below_fr hb5 (w.heap.size) o (by first | omega | (simp only [ZA, ZS, ZD, ZN]; omega)); have hb5c1 := fun o => below_at hb5 (wr.heap.size) o (by first | omega | (simp only [ZA, ZS, ZD, ZN]; omega)); have hb5f1 := fun o => below_fr hb5 (wr.heap.size) o (by first | omega | (simp only [ZA, ZS, ZD, ZN]; omega)))
                        go_wp2
                        have HB5 : Below (wr.heap.size + 1) (wr.alloc (.cells #[.int .i64 (F k), .int .i64 (T k), .bool s, .slice A1 n1 c1, .slice B1 m1 d1] 65)) w5 := (by have z0 := Below.size hb2; have z1 := Below.size hb3; have z2 := Below.size hb4; have z3 := Below.size hb5; (try simp only [ZA, ZS, ZD, ZN] at z0 z1 z2 z3 ⊢; skip); repeat' (first | (with_reducible exact Below.refl _ _) | (with_reducible assumption) | (with_reducible refine Below.alloc ?_ ?_ _) | (with_reducible refine Below.drew ?_) | (with_reducible refine below_drewN ?_ _) | (with_reducible refine Below.setCell ?_ ?_ _) | (with_reducible refine Below.trans ?_ (Below.mono (by with_reducible assumption) ?_)) | omega | (simp only [ZA, ZS, ZD, ZN]; omega) | go_size))
                        have t5 : ∀ {g o : Nat} {v : Value}, (wr.alloc (.cells #[.int .i64 (F k), .int .i64 (T k), .bool s, .slice A1 n1 c1, .slice B1 m1 d1] 65)).cell? ⟨g, o, none⟩ = some v → w5.cell? ⟨g, o, none⟩ = some v := fun h => (HB5.cell (by have := lt_of_cell h; simp at this; exact this)).trans h
                        have tw : ∀ {o : Nat} {v : Value}, w.cell? ⟨b, o, none⟩ = some v → w5.cell? ⟨b, o, none⟩ = some v := fun h => t5 (Lib.cell?_alloc_some _ ((hbw.cell (lt_of_cell h)).trans h))
                        have q0 := fun y : Sub w5 => y.cell (tw p0)
                        have q1 := fun y : Sub w5 => y.cell (tw p1)
                        have q2 := fun y : Sub w5 => y.cell (tw p2)
                        have q3 := fun y : Sub w5 => y.cell (tw p3)
                        have q4 := fun y : Sub w5 => y.cell (tw p4)
                        have qv := fun y : Sub w5 => y.cell (t5 (Lib.cell?_alloc_some _ y2))
                        have qm0 := fun y : Sub w5 => y.cell (t5 (g := wr.heap.size) (o := 0) (v := .int .i64 (F k)) (by simp))
                        have qm1 := fun y : Sub w5 => y.cell (t5 (g := wr.heap.size) (o := 1) (v := .int .i64 (T k)) (by simp))
                        have qm2 := fun y : Sub w5 => y.cell (t5 (g := wr.heap.size) (o := 2) (v := .bool s) (by simp))
                        have qm3 := fun y : Sub w5 => y.cell (t5 (g := wr.heap.size) (o := 3) (v := .slice A1 n1 c1) (by simp))
                        have qm4 := fun y : Sub w5 => y.cell (t5 (g := wr.heap.size) (o := 4) (v := .slice B1 m1 d1) (by simp))
                        ((refine wp_region_quiet_bel (by kernel_rfl) (by kernel_rfl) ?_); (repeat (go_big_quiet_step ((go_at_call 59; with_reducible exact Calls.quiet_bel (before_yes _ HO.out))))); (refine wpQuiet_nil ?_); rintro w6 ⟨⟨_, hb6⟩, rfl⟩; (try dsimp only))
                        go_wp2
                        go_roundw
                        case rel => exact ⟨k + 1, by omega, by go_num, HN.out, hb.trans (by have z0 := Below.size hb2; have z1 := Below.size hb3; have z2 := Below.size hb4; have z3 := Below.size hb5; have z4 := Below.size hb6; (try simp only [ZA, ZS, ZD, ZN] at z0 z1 z2 z3 z4 ⊢; skip); repeat' (first | (with_reducible exact Below.refl _ _) | (with_reducible assumption) | (with_reducible refine Below.alloc ?_ ?_ _) | (with_reducible refine Below.drew ?_) | (with_reducible refine below_drewN ?_ _) | (with_reducible refine Below.setCell ?_ ?_ _) | (with_reducible refine Below.trans ?_ (Below.mono (by with_reducible assumption) ?_)) | omega | (simp only [ZA, ZS, ZD, ZN]; omega) | go_size))⟩
                        case measure => simp [intOf]; omega
                      · have HE2 := Lib.hid (HE.out.trans (mvE_err HMV.out (chkM_13 HFT.out HNE.out HQ2.out ⟨hk9, hO⟩) (by omega) hlt))
                        have HO := Lib.hid hO
                        clear hO
                        (go_wp2_with fail; (with_reducible refine (state_yes _ hF0 hF1).mono ?_); rintro e w2 ⟨rfl, hb2⟩; have hb2z := Below.size hb2; (try simp only [ZA, ZS, ZD, ZN] at hb2z); have hb2c0 := fun o => below_at hb2 (w.heap.size) o (by first | omega | (simp only [ZA, ZS, ZD, ZN]; omega)); have hb2f0 := fun o => below_fr hb2 (w.heap.size) o (by first | omega | (simp only [ZA, ZS, ZD, ZN]; omega)); have hb2c1 := fun o => below_at hb2 (wr.heap.size) o (by first | omega | (simp only [ZA, ZS, ZD, ZN]; omega)); have hb2f1 := fun o => below_fr hb2 (wr.heap.size) o (by first | omega | (simp only [ZA, ZS, ZD, ZN]; omega)))
                        (go_wp2_with fail; (with_reducible refine (state_yes _ hT0 hT1).mono ?_); rintro e w3 ⟨rfl, hb3⟩; have hb3z := Below.size hb3; (try simp only [ZA, ZS, ZD, ZN] at hb3z); have hb3c0 := fun o => below_at hb3 (w.heap.size) o (by first | omega | (simp only [ZA, ZS, ZD, ZN]; omega)); have hb3f0 := fun o => below_fr hb3 (w.heap.size) o (by first | omega | (simp only [ZA, ZS, ZD, ZN]; omega)); have hb3c1 := fun o => below_at hb3 (wr.heap.size) o (by first | omega | (simp only [ZA, ZS, ZD, ZN]; omega)); have hb3f1 := fun o => below_fr hb3 (wr.heap.size) o (by first | omega | (simp only [ZA, ZS, ZD, ZN]; omega)))
                        (go_wp2_with fail; (with_reducible refine (HV'.out _ (by have z0 := Below.size hb2; have z1 := Below.size hb3; (try simp only [ZA, ZS, ZD, ZN] at z0 z1 ⊢; skip); repeat' (first | (with_reducible exact Below.refl _ _) | (with_reducible assumption) | (with_reducible refine Below.alloc ?_ ?_ _) | (with_reducible refine Below.drew ?_) | (with_reducible refine below_drewN ?_ _) | (with_reducible refine Below.setCell ?_ ?_ _) | (with_reducible refine Below.trans ?_ (Below.mono (by with_reducible assumption) ?_)) | omega | (simp only [ZA, ZS, ZD, ZN]; omega) | go_size))).mono ?_); rintro e w4 ⟨rfl, hb4⟩; have hb4z := Below.size hb4; (try simp only [ZA, ZS, ZD, ZN] at hb4z); have hb4c0 := fun o => below_at hb4 (w.heap.size) o (by first | omega | (simp only [ZA, ZS, ZD, ZN]; omega)); have hb4f0 := fun o => below_fr hb4 (w.heap.size) o (by first | omega | (simp only [ZA, ZS, ZD, ZN]; omega)); have hb4c1 := fun o => below_at hb4 (wr.heap.size) o (by first | omega | (simp only [ZA, ZS, ZD, ZN]; omega)); have hb4f1 := fun o => below_fr hb4 (wr.heap.size) o (by first | omega | (simp only [ZA, ZS, ZD, ZN]; omega)))
                        (go_wp2_with fail; (with_reducible refine (HS'.out _ (by have z0 := Below.size hb2; have z1 := Below.size hb3; have z2 := Below.size hb4; (try simp only [ZA, ZS, ZD, ZN] at z0 z1 z2 ⊢; skip); repeat' (first | (with_reducible exact Below.refl _ _) | (with_reducible assumption) | (with_reducible refine Below.alloc ?_ ?_ _) | (with_reducible refine Below.drew ?_) | (with_reducible refine below_drewN ?_ _) | (with_reducible refine Below.setCell ?_ ?_ _) | (with_reducible refine Below.trans ?_ (Below.mono (by with_reducible assumption) ?_)) | omega | (simp only [ZA, ZS, ZD, ZN]; omega) | go_size))).mono ?_); rintro e w5 ⟨rfl, hb5⟩; have hb5z := Below.size hb5; (try simp only [ZA, ZS, ZD, ZN] at hb5z); have hb5c0 := fun o => below_at hb5 (w.heap.size) o (by first | omega | (simp only [ZA, ZS, ZD, ZN]; omega)); have hb5f0 := fun o => below_fr hb5 (w.heap.size) o (by first | omega | (simp only [ZA, ZS, ZD, ZN]; omega)); have hb5c1 := fun o => below_at hb5 (wr.heap.size) o (by first | omega | (simp only [ZA, ZS, ZD, ZN]; omega)); have hb5f1 := fun o => below_fr hb5 (wr.heap.size) o (by first | omega | (simp only [ZA, ZS, ZD, ZN]; omega)))
                        go_wp2
                        have HB5 : Below (wr.heap.size + 1) (wr.alloc (.cells #[.int .i64 (F k), .int .i64 (T k), .bool s, .slice A1 n1 c1, .slice B1 m1 d1] 65)) w5 := (by have z0 := Below.size hb2; have z1 := Below.size hb3; have z2 := Below.size hb4; have z3 := Below.size hb5; (try simp only [ZA, ZS, ZD, ZN] at z0 z1 z2 z3 ⊢; skip); repeat' (first | (with_reducible exact Below.refl _ _) | (with_reducible assumption) | (with_reducible refine Below.alloc ?_ ?_ _) | (with_reducible refine Below.drew ?_) | (with_reducible refine below_drewN ?_ _) | (with_reducible refine Below.setCell ?_ ?_ _) | (with_reducible refine Below.trans ?_ (Below.mono (by with_reducible assumption) ?_)) | omega | (simp only [ZA, ZS, ZD, ZN]; omega) | go_size))
                        have t5 : ∀ {g o : Nat} {v : Value}, (wr.alloc (.cells #[.int .i64 (F k), .int .i64 (T k), .bool s, .slice A1 n1 c1, .slice B1 m1 d1] 65)).cell? ⟨g, o, none⟩ = some v → w5.cell? ⟨g, o, none⟩ = some v := fun h => (HB5.cell (by have := lt_of_cell h; simp at this; exact this)).trans h
                        have tw : ∀ {o : Nat} {v : Value}, w.cell? ⟨b, o, none⟩ = some v → w5.cell? ⟨b, o, none⟩ = some v := fun h => t5 (Lib.cell?_alloc_some _ ((hbw.cell (lt_of_cell h)).trans h))
                        have q0 := fun y : Sub w5 => y.cell (tw p0)
                        have q1 := fun y : Sub w5 => y.cell (tw p1)
                        have q2 := fun y : Sub w5 => y.cell (tw p2)
                        have q3 := fun y : Sub w5 => y.cell (tw p3)
                        have q4 := fun y : Sub w5 => y.cell (tw p4)
                        have qv := fun y : Sub w5 => y.cell (t5 (Lib.cell?_alloc_some _ y2))
                        have qm0 := fun y : Sub w5 => y.cell (t5 (g := wr.heap.size) (o := 0) (v := .int .i64 (F k)) (by simp))
                        have qm1 := fun y : Sub w5 => y.cell (t5 (g := wr.heap.size) (o := 1) (v := .int .i64 (T k)) (by simp))
                        have qm2 := fun y : Sub w5 => y.cell (t5 (g := wr.heap.size) (o := 2) (v := .bool s) (by simp))
                        have qm3 := fun y : Sub w5 => y.cell (t5 (g := wr.heap.size) (o := 3) (v := .slice A1 n1 c1) (by simp))
                        have qm4 := fun y : Sub w5 => y.cell (t5 (g := wr.heap.size) (o := 4) (v := .slice B1 m1 d1) (by simp))
                        ((refine wp_region_quiet_bel (by kernel_rfl) (by kernel_rfl) ?_); (repeat (go_big_quiet_step ((go_at_call 59; with_reducible exact Calls.quiet_bel (before_no _ HO.out))))); (refine wpQuiet_nil ?_); rintro w6 ⟨⟨_, hb6⟩, rfl⟩; (try dsimp only))
                        go_wp2
                        go_ret
                        exact ⟨by rw [HE2.out]; rfl, hbw.trans (by have z0 := Below.size hb2; have z1 := Below.size hb3; have z2 := Below.size hb4; have z3 := Below.size hb5; have z4 := Below.size hb6; (try simp only [ZA, ZS, ZD, ZN] at z0 z1 z2 z3 z4 ⊢; skip); repeat' (first | (with_reducible exact Below.refl _ _) | (with_reducible assumption) | (with_reducible refine Below.alloc ?_ ?_ _) | (with_reducible refine Below.drew ?_) | (with_reducible refine below_drewN ?_ _) | (with_reducible refine Below.setCell ?_ ?_ _) | (with_reducible refine Below.trans ?_ (Below.mono (by with_reducible assumption) ?_)) | omega | (simp only [ZA, ZS, ZD, ZN]; omega) | go_size))⟩
                    · have e7 : decide ((0 : Int) < (k : Int)) = false := by simp; omega
                      have HN := Lib.hid (mvE_next HMV.out (chkM_0 HFT.out HNE.out HQ2.out (fun h => hk9 h.1)))
                      (go_wp2_with fail; (with_reducible refine (state_yes _ hF0 hF1).mono ?_); rintro e w2 ⟨rfl, hb2⟩; have hb2z := Below.size hb2; (try simp only [ZA, ZS, ZD, ZN] at hb2z); have hb2c0 := fun o => below_at hb2 (w.heap.size) o (by first | omega | (simp only [ZA, ZS, ZD, ZN]; omega)); have hb2f0 := fun o => below_fr hb2 (w.heap.size) o (by first | omega | (simp only [ZA, ZS, ZD, ZN]; omega)); have hb2c1 := fun o => below_at hb2 (wr.heap.size) o (by first | omega | (simp only [ZA, ZS, ZD, ZN]; omega)); have hb2f1 := fun o => below_fr hb2 (wr.heap.size) o (by first | omega | (simp only [ZA, ZS, ZD, ZN]; omega)))
                      (go_wp2_with fail; (with_reducible refine (state_yes _ hT0 hT1).mono ?_); rintro e w3 ⟨rfl, hb3⟩; have hb3z := Below.size hb3; (try simp only [ZA, ZS, ZD, ZN] at hb3z); have hb3c0 := fun o => below_at hb3 (w.heap.size) o (by first | omega | (simp only [ZA, ZS, ZD, ZN]; omega)); have hb3f0 := fun o => below_fr hb3 (w.heap.size) o (by first | omega | (simp only [ZA, ZS, ZD, ZN]; omega)); have hb3c1 := fun o => below_at hb3 (wr.heap.size) o (by first | omega | (simp only [ZA, ZS, ZD, ZN]; omega)); have hb3f1 := fun o => below_fr hb3 (wr.heap.size) o (by first | omega | (simp only [ZA, ZS, ZD, ZN]; omega)))
                      (go_wp2_with fail; (with_reducible refine (HV'.out _ (by have z0 := Below.size hb2; have z1 := Below.size hb3; (try simp only [ZA, ZS, ZD, ZN] at z0 z1 ⊢; skip); repeat' (first | (with_reducible exact Below.refl _ _) | (with_reducible assumption) | (with_reducible refine Below.alloc ?_ ?_ _) | (with_reducible refine Below.drew ?_) | (with_reducible refine below_drewN ?_ _) | (with_reducible refine Below.setCell ?_ ?_ _) | (with_reducible refine Below.trans ?_ (Below.mono (by with_reducible assumption) ?_)) | omega | (simp only [ZA, ZS, ZD, ZN]; omega) | go_size))).mono ?_); rintro e w4 ⟨rfl, hb4⟩; have hb4z := Below.size hb4; (try simp only [ZA, ZS, ZD, ZN] at hb4z); have hb4c0 := fun o => below_at hb4 (w.heap.size) o (by first | omega | (simp only [ZA, ZS, ZD, ZN]; omega)); have hb4f0 := fun o => below_fr hb4 (w.heap.size) o (by first | omega | (simp only [ZA, ZS, ZD, ZN]; omega)); have hb4c1 := fun o => below_at hb4 (wr.heap.size) o (by first | omega | (simp only [ZA, ZS, ZD, ZN]; omega)); have hb4f1 := fun o => below_fr hb4 (wr.heap.size) o (by first | omega | (simp only [ZA, ZS, ZD, ZN]; omega)))
                      (go_wp2_with fail; (with_reducible refine (HS'.out _ (by have z0 := Below.size hb2; have z1 := Below.size hb3; have z2 := Below.size hb4; (try simp only [ZA, ZS, ZD, ZN] at z0 z1 z2 ⊢; skip); repeat' (first | (with_reducible exact Below.refl _ _) | (with_reducible assumption) | (with_reducible refine Below.alloc ?_ ?_ _) | (with_reducible refine Below.drew ?_) | (with_reducible refine below_drewN ?_ _) | (with_reducible refine Below.setCell ?_ ?_ _) | (with_reducible refine Below.trans ?_ (Below.mono (by with_reducible assumption) ?_)) | omega | (simp only [ZA, ZS, ZD, ZN]; omega) | go_size))).mono ?_); rintro e w5 ⟨rfl, hb5⟩; have hb5z := Below.size hb5; (try simp only [ZA, ZS, ZD, ZN] at hb5z); have hb5c0 := fun o => below_at hb5 (w.heap.size) o (by first | omega | (simp only [ZA, ZS, ZD, ZN]; omega)); have hb5f0 := fun o => below_fr hb5 (w.heap.size) o (by first | omega | (simp only [ZA, ZS, ZD, ZN]; omega)); have hb5c1 := fun o => below_at hb5 (wr.heap.size) o (by first | omega | (simp only [ZA, ZS, ZD, ZN]; omega)); have hb5f1 := fun o => below_fr hb5 (wr.heap.size) o (by first | omega | (simp only [ZA, ZS, ZD, ZN]; omega)))
                      go_wp2
                      ((refine wp_region_quiet_bel (by kernel_rfl) (by kernel_rfl) ?_); (repeat (go_big_quiet_step (fail))); (refine wpQuiet_nil ?_); rintro w6 ⟨⟨_, hb6⟩, rfl⟩; (try dsimp only))
                      go_wp2
                      go_roundw
                      case rel => exact ⟨k + 1, by omega, by go_num, HN.out, hb.trans (by have z0 := Below.size hb2; have z1 := Below.size hb3; have z2 := Below.size hb4; have z3 := Below.size hb5; have z4 := Below.size hb6; (try simp only [ZA, ZS, ZD, ZN] at z0 z1 z2 z3 z4 ⊢; skip); repeat' (first | (with_reducible exact Below.refl _ _) | (with_reducible assumption) | (with_reducible refine Below.alloc ?_ ?_ _) | (with_reducible refine Below.drew ?_) | (with_reducible refine below_drewN ?_ _) | (with_reducible refine Below.setCell ?_ ?_ _) | (with_reducible refine Below.trans ?_ (Below.mono (by with_reducible assumption) ?_)) | omega | (simp only [ZA, ZS, ZD, ZN]; omega) | go_size))⟩
                      case measure => simp [intOf]; omega
                  · have HE2 := Lib.hid (HE.out.trans (mvE_err HMV.out (chkM_3 HFT.out HNE.out (Rat.not_lt.1 hq)) (by omega) hlt))
                    rw [HQ.out] at hq
                    cases hv : validR (R k)
                    · rw [hv] at HV
                      clear hv hq HS
                      (go_wp2_with fail; (with_reducible refine (state_yes _ hF0 hF1).mono ?_); rintro e w2 ⟨rfl, hb2⟩; have hb2z := Below.size hb2; (try simp only [ZA, ZS, ZD, ZN] at hb2z); have hb2c0 := fun o => below_at hb2 (w.heap.size) o (by first | omega | (simp only [ZA, ZS, ZD, ZN]; omega)); have hb2f0 := fun o => below_fr hb2 (w.heap.size) o (by first | omega | (simp only [ZA, ZS, ZD, ZN]; omega)); have hb2c1 := fun o => below_at hb2 (wr.heap.size) o (by first | omega | (simp only [ZA, ZS, ZD, ZN]; omega)); have hb2f1 := fun o => below_fr hb2 (wr.heap.size) o (by first | omega | (simp only [ZA, ZS, ZD, ZN]; omega)))
                      (go_wp2_with fail; (with_reducible refine (state_yes _ hT0 hT1).mono ?_); rintro e w3 ⟨rfl, hb3⟩; have hb3z := Below.size hb3; (try simp only [ZA, ZS, ZD, ZN] at hb3z); have hb3c0 := fun o => below_at hb3 (w.heap.size) o (by first | omega | (simp only [ZA, ZS, ZD, ZN]; omega)); have hb3f0 := fun o => below_fr hb3 (w.heap.size) o (by first | omega | (simp only [ZA, ZS, ZD, ZN]; omega)); have hb3c1 := fun o => below_at hb3 (wr.heap.size) o (by first | omega | (simp only [ZA, ZS, ZD, ZN]; omega)); have hb3f1 := fun o => below_fr hb3 (wr.heap.size) o (by first | omega | (simp only [ZA, ZS, ZD, ZN]; omega)))
                      (go_wp2_with fail; (with_reducible refine (HV.out _ (by have z0 := Below.size hb2; have z1 := Below.size hb3; (try simp only [ZA, ZS, ZD, ZN] at z0 z1 ⊢; skip); repeat' (first | (with_reducible exact Below.refl _ _) | (with_reducible assumption) | (with_reducible refine Below.alloc ?_ ?_ _) | (with_reducible refine Below.drew ?_) | (with_reducible refine below_drewN ?_ _) | (with_reducible refine Below.setCell ?_ ?_ _) | (with_reducible refine Below.trans ?_ (Below.mono (by with_reducible assumption) ?_)) | omega | (simp only [ZA, ZS, ZD, ZN]; omega) | go_size))).mono ?_); rintro e w4 ⟨rfl, hb4⟩; have hb4z := Below.size hb4; (try simp only [ZA, ZS, ZD, ZN] at hb4z); have hb4c0 := fun o => below_at hb4 (w.heap.size) o (by first | omega | (simp only [ZA, ZS, ZD, ZN]; omega)); have hb4f0 := fun o => below_fr hb4 (w.heap.size) o (by first | omega | (simp only [ZA, ZS, ZD, ZN]; omega)); have hb4c1 := fun o => below_at hb4 (wr.heap.size) o (by first | omega | (simp only [ZA, ZS, ZD, ZN]; omega)); have hb4f1 := fun o => below_fr hb4 (wr.heap.size) o (by first | omega | (simp only [ZA, ZS, ZD, ZN]; omega)))
                      go_wp2
                      go_ret
                      exact ⟨by rw [HE2.out]; rfl, hbw.trans (by have z0 := Below.size hb2; have z1 := Below.size hb3; have z2 := Below.size hb4; (try simp only [ZA, ZS, ZD, ZN] at z0 z1 z2 ⊢; skip); repeat' (first | (with_reducible exact Below.refl _ _) | (with_reducible assumption) | (with_reducible refine Below.alloc ?_ ?_ _) | (with_reducible refine Below.drew ?_) | (with_reducible refine below_drewN ?_ _) | (with_reducible refine Below.setCell ?_ ?_ _) | (with_reducible refine Below.trans ?_ (Below.mono (by with_reducible assumption) ?_)) | omega | (simp only [ZA, ZS, ZD, ZN]; omega) | go_size))⟩
                    · rw [hv] at HV
                      have hz9 : ∃ z : Int, z ≤ 0 ∧ sgnQ (valR (R k)) = z := by
                        rcases sgn_le hq with e | e
                        · exact ⟨0, by omega, e⟩
                        · exact ⟨-1, by omega, e⟩
                      obtain ⟨z, hz0, hz1⟩ := hz9
                      have HS' := Lib.hid (fun W hb => HS.out W z hb hz1)
                      have e6 : decide (z ≤ 0) = true := by simpa using hz0
                      clear hv hq HS hz1
                      (go_wp2_with fail; (with_reducible refine (state_yes _ hF0 hF1).mono ?_); rintro e w2 ⟨rfl, hb2⟩; have hb2z := Below.size hb2; (try simp only [ZA, ZS, ZD, ZN] at hb2z); have hb2c0 := fun o => below_at hb2 (w.heap.size) o (by first | omega | (simp only [ZA, ZS, ZD, ZN]; omega)); have hb2f0 := fun o => below_fr hb2 (w.heap.size) o (by first | omega | (simp only [ZA, ZS, ZD, ZN]; omega)); have hb2c1 := fun o => below_at hb2 (wr.heap.size) o (by first | omega | (simp only [ZA, ZS, ZD, ZN]; omega)); have hb2f1 := fun o => below_fr hb2 (wr.heap.size) o (by first | omega | (simp only [ZA, ZS, ZD, ZN]; omega)))
                      (go_wp2_with fail; (with_reducible refine (state_yes _ hT0 hT1).mono ?_); rintro e w3 ⟨rfl, hb3⟩; have hb3z := Below.size hb3; (try simp only [ZA, ZS, ZD, ZN] at hb3z); have hb3c0 := fun o => below_at hb3 (w.heap.size) o (by first | omega | (simp only [ZA, ZS, ZD, ZN]; omega)); have hb3f0 := fun o => below_fr hb3 (w.heap.size) o (by first | omega | (simp only [ZA, ZS, ZD, ZN]; omega)); have hb3c1 := fun o => below_at hb3 (wr.heap.size) o (by first | omega | (simp only [ZA, ZS, ZD, ZN]; omega)); have hb3f1 := fun o => below_fr hb3 (wr.heap.size) o (by first | omega | (simp only [ZA, ZS, ZD, ZN]; omega)))
                      (go_wp2_with fail; (with_reducible refine (HV.out _ (by have z0 := Below.size hb2; have z1 := Below.size hb3; (try simp only [ZA, ZS, ZD, ZN] at z0 z1 ⊢; skip); repeat' (first | (with_reducible exact Below.refl _ _) | (with_reducible assumption) | (with_reducible refine Below.alloc ?_ ?_ _) | (with_reducible refine Below.drew ?_) | (with_reducible refine below_drewN ?_ _) | (with_reducible refine Below.setCell ?_ ?_ _) | (with_reducible refine Below.trans ?_ (Below.mono (by with_reducible assumption) ?_)) | omega | (simp only [ZA, ZS, ZD, ZN]; omega) | go_size))).mono ?_); rintro e w4 ⟨rfl, hb4⟩; have hb4z := Below.size hb4; (try simp only [ZA, ZS, ZD, ZN] at hb4z); have hb4c0 := fun o => below_at hb4 (w.heap.size) o (by first | omega | (simp only [ZA, ZS, ZD, ZN]; omega)); have hb4f0 := fun o => below_fr hb4 (w.heap.size) o (by first | omega | (simp only [ZA, ZS, ZD, ZN]; omega)); have hb4c1 := fun o => below_at hb4 (wr.heap.size) o (by first | omega | (simp only [ZA, ZS, ZD, ZN]; omega)); have hb4f1 := fun o => below_fr hb4 (wr.heap.size) o (by first | omega | (simp only [ZA, ZS, ZD, ZN]; omega)))
                      (go_wp2_with fail; (with_reducible refine (HS'.out _ (by have z0 := Below.size hb2; have z1 := Below.size hb3; have z2 := Below.size hb4; (try simp only [ZA, ZS, ZD, ZN] at z0 z1 z2 ⊢; skip); repeat' (first | (with_reducible exact Below.refl _ _) | (with_reducible assumption) | (with_reducible refine Below.alloc ?_ ?_ _) | (with_reducible refine Below.drew ?_) | (with_reducible refine below_drewN ?_ _) | (with_reducible refine Below.setCell ?_ ?_ _) | (with_reducible refine Below.trans ?_ (Below.mono (by with_reducible assumption) ?_)) | omega | (simp only [ZA, ZS, ZD, ZN]; omega) | go_size))).mono ?_); rintro e w5 ⟨rfl, hb5⟩; have hb5z := Below.size hb5; (try simp only [ZA, ZS, ZD, ZN] at hb5z); have hb5c0 := fun o => below_at hb5 (w.heap.size) o (by first | omega | (simp only [ZA, ZS, ZD, ZN]; omega)); have hb5f0 := fun o => below_fr hb5 (w.heap.size) o (by first | omega | (simp only [ZA, ZS, ZD, ZN]; omega)); have hb5c1 := fun o => below_at hb5 (wr.heap.size) o (by first | omega | (simp only [ZA, ZS, ZD, ZN]; omega)); have hb5f1 := fun o => below_fr hb5 (wr.heap.size) o (by first | omega | (simp only [ZA, ZS, ZD, ZN]; omega)))
                      go_wp2
                      go_ret
                      exact ⟨by rw [HE2.out]; rfl, hbw.trans (by have z0 := Below.size hb2; have z1 := Below.size hb3; have z2 := Below.size hb4; have z3 := Below.size hb5; (try simp only [ZA, ZS, ZD, ZN] at z0 z1 z2 z3 ⊢; skip); repeat' (first | (with_reducible exact Below.refl _ _) | (with_reducible assumption) | (with_reducible refine Below.alloc ?_ ?_ _) | (with_reducible refine Below.drew ?_) | (with_reducible refine below_drewN ?_ _) | (with_reducible refine Below.setCell ?_ ?_ _) | (with_reducible refine Below.trans ?_ (Below.mono (by with_reducible assumption) ?_)) | omega | (simp only [ZA, ZS, ZD, ZN]; omega) | go_size))⟩
          · have hkn : k = nm := by omega
            subst hkn
            have HE2 := Lib.hid (HE.out.trans HMV.out)
            go_wp2
            go_ret
            exact ⟨by rw [HE2.out]; rfl, hbw⟩
    · have HE := Lib.hid (HC.out.trans (codeC_11 h1 h2))
      have e3 : ((nd : Int) != st) = true := by simpa using h2
      have e4 : ((nd : Int) == st) = false := by simpa using h2
      clear h1 h2
      go_enter Tryz.func18, Tryz.ntmps18
      go_wp2
      go_ret
      exact ⟨by rw [HE.out]; rfl, hbA _⟩
end Go.Proofs.YtoiopnmphbnjaaaGreatDoor
namespace Go.Proofs.YtoiopnmphbnjaaaGreatDoor
open Go.RowKit
set_option linter.unusedSimpArgs false
set_option linter.unusedVariables false
set_option maxRecDepth 20000
attribute [local irreducible] nv wp win plainB validR valR canR mvE chkM codeC
/-! ## reference: Check -/
set_option maxHeartbeats 8000000 in
theorem rchCheck {w : World} {AM AD : Option Addr} {cm cd : Nat} {c : Chn} (h : ChI w w.heap.size AM cm AD cd c) (hn : c.nm ≤ 1000000) (hz : Short c.nm c.R) :
    Calls Tryz.prog 32 #[cv c.st c.sr AM c.nm cm AD c.nd cd] w fun e w' => e = .returned (.int .i64 c.code) ∧ Below w.heap.size w w' := by
  obtain ⟨st, sr, nm, F, T, R, nd, D⟩ := c
  have HM := Lib.hid h.mv.1
  have HZ := Lib.hid hz
  obtain ⟨q, hq⟩ : ∃ q : Nat → Rat, q = Chn.q ⟨st, sr, nm, F, T, R, nd, D⟩ := ⟨_, rfl⟩
  have HQ := Lib.hid (fun k => (by rw [hq]; rfl : q k = valR (R k)))
  obtain ⟨cc, hcc⟩ : ∃ cc, cc = Chn.code ⟨st, sr, nm, F, T, R, nd, D⟩ := ⟨_, rfl⟩
  have HC := Lib.hid (hcc.trans (by unfold Chn.code; rw [← hq] : _ = codeC st sr nm F T q nd))
  rw [← hcc]
  simp only at hn ⊢
  clear h hz hq hcc
  have hbA : ∀ o, Below w.heap.size w (w.alloc o) := fun o => (Below.refl _ _).alloc (Nat.le_refl _) o
  by_cases h1 : st < 1 ∨ 256 < st
  · have HE := Lib.hid (HC.out.trans (codeC_3 h1))
    by_cases h2 : st < 1
    · have e1 : decide (st < 1) = true := by simpa using h2
      clear h1
      go_enter Tryz.func32, Tryz.ntmps32
      go_wp2
      go_ret
      exact ⟨by rw [HE.out]; rfl, hbA _⟩
    · have e1 : decide (st < 1) = false := by simpa using h2
      have e2 : decide (256 < st) = true := by simp; omega
      clear h1
      go_enter Tryz.func32, Tryz.ntmps32
      go_wp2
      go_ret
      exact ⟨by rw [HE.out]; rfl, hbA _⟩
  · have e1 : decide (st < 1) = false := by simp; omega
    have e2 : decide (256 < st) = false := by simp; omega
    by_cases h2 : (nd : Int) = st
    · have e3 : ((nd : Int) != st) = false := by simp [h2]
      by_cases h3 : sr < 0 ∨ st ≤ sr
      · have HE := Lib.hid (HC.out.trans (codeC_10 h1 h2 h3))
        by_cases h4 : sr < 0
        · have e4 : decide (sr < 0) = true := by simpa using h4
          clear h1 h2 h3
          go_enter Tryz.func32, Tryz.ntmps32
          go_wp2
          go_ret
          exact ⟨by rw [HE.out]; rfl, hbA _⟩
        · have e4 : decide (sr < 0) = false := by simpa using h4
          have e5 : decide (st ≤ sr) = true := by simp; omega
          clear h1 h2 h3
          go_enter Tryz.func32, Tryz.ntmps32
          go_wp2
          go_ret
          exact ⟨by rw [HE.out]; rfl, hbA _⟩
      · have HE := Lib.hid (HC.out.trans (codeC_mv h1 h2 h3))
        have h4 : 0 ≤ sr := by omega
        have h5 : sr < st := by omega
        have h0 : 1 ≤ st := by omega
        have e4 : decide (sr < 0) = false := by simp; omega
        have e5 : decide (st ≤ sr) = false := by simp; omega
        obtain ⟨W0, hW0⟩ : ∃ W0, W0 = w.alloc (.cells #[.int .i64 st, .int .i64 sr, .slice AM nm cm, .slice AD nd cd] 32) := ⟨_, rfl⟩
        have hbW : Below w.heap.size w W0 := by rw [hW0]; exact hbA _
        have hWz : W0.heap.size = w.heap.size + 1 := by rw [hW0]; simp
        have g0 : W0.cell? ⟨w.heap.size, 0, none⟩ = some (.int .i64 st) := by rw [hW0]; simp
        have g1 : W0.cell? ⟨w.heap.size, 1, none⟩ = some (.int .i64 sr) := by rw [hW0]; simp
        have g2 : W0.cell? ⟨w.heap.size, 2, none⟩ = some (.slice AM nm cm) := by rw [hW0]; simp
        have g3 : W0.cell? ⟨w.heap.size, 3, none⟩ = some (.slice AD nd cd) := by rw [hW0]; simp
        have HW := Lib.hid hW0
        clear h1 h2 h3 hW0
        go_enter Tryz.func32, Tryz.ntmps32
        go_wp2
        rw [← HW.out]
        go_loopw [35] (fun i wr => ∃ k : Nat, k ≤ nm ∧ i = .int .i64 (k : Int) ∧ mvE st F T q k = 0 ∧ Below (w.heap.size + 1) W0 wr) (fun i _ => nm - (intOf i).toNat)
        case atStart => exact ⟨0, Nat.zero_le _, rfl, (by unfold mvE; rfl), Below.refl _ _⟩
        case round =>
          obtain ⟨k, hk, rfl, hmv, hb⟩ := hrel
          have HMV := Lib.hid hmv
          clear hmv
          have hbz := hb.size
          have hbw : Below w.heap.size w wr := hbW.trans (hb.mono (by omega))
          by_cases hlt : k < nm
          · obtain ⟨b, off, s, A1, n1, c1, B1, m1, d1, rfl, hbb, f0, f1, f2, f3, f4, r0⟩ := HM.out.at_ hlt
            obtain ⟨z1, z2⟩ := HZ.out k hlt
            have r1 := r0.kp (Kp.of_below hbw)
            have tc : ∀ {o : Nat} {v : Value}, w.cell? ⟨b, o, none⟩ = some v → wr.cell? ⟨b, o, none⟩ = some v := fun h => (hbw.cell (lt_of_cell h)).trans h
            have x0 := tc f0
            have x1 := tc f1
            have x2 := tc f2
            have x3 := tc f3
            have x4 := tc f4
            have tv : ∀ {o : Nat} {v : Value}, W0.cell? ⟨w.heap.size, o, none⟩ = some v → wr.cell? ⟨w.heap.size, o, none⟩ = some v := fun h => (hb.cell (p := ⟨w.heap.size, _, none⟩) (by show w.heap.size < _; omega)).trans h
            have y0 := tv g0
            have y1 := tv g1
            have y2 := tv g2
            have y3 := tv g3
            have hk0 : (0 : Int) ≤ (k : Int) := by omega
            have hk1 : (k : Int) < (nm : Int) := by omega
            have HV := Lib.hid (fun W (hb : Below wr.heap.size wr W) => rvalidS (r1.kp (Kp.of_below hb)) z1 z2)
            have HS := Lib.hid (fun W z (hb : Below wr.heap.size wr W) (hz : sgnQ (valR (R k)) = z) => rsignS (r1.kp (Kp.of_below hb)) z1 z2 hz)
            clear f0 f1 f2 f3 f4 r0 r1 tc tv z1 z2
            have hwl : w.heap.size < wr.heap.size := by omega
            (have olc := fun o i => below_at ((Below.refl wr.heap.size wr).alloc (Nat.le_refl _) o) (w.heap.size) i (by omega)); (have olf := fun o i => below_fr ((Below.refl wr.heap.size wr).alloc (Nat.le_refl _) o) (w.heap.size) i (by omega))
            by_cases hF : F k < 0 ∨ st ≤ F k
            · have HE2 := Lib.hid (HE.out.trans (mvE_err HMV.out (chkM_10 (by omega)) (by omega) hlt))
              by_cases hF2 : F k < 0
              · have dF0 : decide (F k < 0) = true := by simpa using hF2
                clear hF hF2
                go_wp2
                go_ret
                exact ⟨by rw [HE2.out]; rfl, hbw.trans (by (skip); repeat' (first | (with_reducible exact Below.refl _ _) | (with_reducible assumption) | (with_reducible refine Below.alloc ?_ ?_ _) | (with_reducible refine Below.drew ?_) | (with_reducible refine below_drewN ?_ _) | (with_reducible refine Below.setCell ?_ ?_ _) | (with_reducible refine Below.trans ?_ (Below.mono (by with_reducible assumption) ?_)) | omega | (simp only [ZA, ZS, ZD, ZN]; omega) | go_size))⟩
              · have dF0 : decide (F k < 0) = false := by simpa using hF2
                have dF1 : decide (st ≤ F k) = true := by simp; omega
                clear hF hF2
                go_wp2
                go_ret
                exact ⟨by rw [HE2.out]; rfl, hbw.trans (by (skip); repeat' (first | (with_reducible exact Below.refl _ _) | (with_reducible assumption) | (with_reducible refine Below.alloc ?_ ?_ _) | (with_reducible refine Below.drew ?_) | (with_reducible refine below_drewN ?_ _) | (with_reducible refine Below.setCell ?_ ?_ _) | (with_reducible refine Below.trans ?_ (Below.mono (by with_reducible assumption) ?_)) | omega | (simp only [ZA, ZS, ZD, ZN]; omega) | go_size))⟩
            · have hF0 : 0 ≤ F k := by omega
              have hF1 : F k < st := by omega
              have dF0 : decide (F k < 0) = false := by simp; omega
              have dF1 : decide (st ≤ F k) = false := by simp; omega
              by_cases hT : T k < 0 ∨ st ≤ T k
              · have HE2 := Lib.hid (HE.out.trans (mvE_err HMV.out (chkM_10 (by omega)) (by omega) hlt))
                by_cases hT2 : T k < 0
                · have dT0 : decide (T k < 0) = true := by simpa using hT2
                  clear hT hT2 hF
                  go_wp2
                  go_ret
                  exact ⟨by rw [HE2.out]; rfl, hbw.trans (by (skip); repeat' (first | (with_reducible exact Below.refl _ _) | (with_reducible assumption) | (with_reducible refine Below.alloc ?_ ?_ _) | (with_reducible refine Below.drew ?_) | (with_reducible refine below_drewN ?_ _) | (with_reducible refine Below.setCell ?_ ?_ _) | (with_reducible refine Below.trans ?_ (Below.mono (by with_reducible assumption) ?_)) | omega | (simp only [ZA, ZS, ZD, ZN]; omega) | go_size))⟩
                · have dT0 : decide (T k < 0) = false := by simpa using hT2
                  have dT1 : decide (st ≤ T k) = true := by simp; omega
                  clear hT hT2 hF
                  go_wp2
                  go_ret
                  exact ⟨by rw [HE2.out]; rfl, hbw.trans (by (skip); repeat' (first | (with_reducible exact Below.refl _ _) | (with_reducible assumption) | (with_reducible refine Below.alloc ?_ ?_ _) | (with_reducible refine Below.drew ?_) | (with_reducible refine below_drewN ?_ _) | (with_reducible refine Below.setCell ?_ ?_ _) | (with_reducible refine Below.trans ?_ (Below.mono (by with_reducible assumption) ?_)) | omega | (simp only [ZA, ZS, ZD, ZN]; omega) | go_size))⟩
              · have hT0 : 0 ≤ T k := by omega
                have hT1 : T k < st := by omega
                have dT0 : decide (T k < 0) = false := by simp; omega
                have dT1 : decide (st ≤ T k) = false := by simp; omega
                have HFT : Hid (¬ (F k < 0 ∨ st ≤ F k ∨ T k < 0 ∨ st ≤ T k)) := by show ¬ _; omega
                clear hF hT
                by_cases hE : F k = T k
                · have HE2 := Lib.hid (HE.out.trans (mvE_err HMV.out (chkM_2 HFT.out hE) (by omega) hlt))
                  have e5 : (F k == T k) = true := by simpa using hE
                  clear hE
                  clear hT0 hT1
                  go_wp2
                  go_ret
                  exact ⟨by rw [HE2.out]; rfl, hbw.trans (by (skip); repeat' (first | (with_reducible exact Below.refl _ _) | (with_reducible assumption) | (with_reducible refine Below.alloc ?_ ?_ _) | (with_reducible refine Below.drew ?_) | (with_reducible refine below_drewN ?_ _) | (with_reducible refine Below.setCell ?_ ?_ _) | (with_reducible refine Below.trans ?_ (Below.mono (by with_reducible assumption) ?_)) | omega | (simp only [ZA, ZS, ZD, ZN]; omega) | go_size))⟩
                · have e5 : (F k == T k) = false := by simpa using hE
                  have HNE := Lib.hid hE
                  clear hE
                  by_cases hq : 0 < q k
                  · have hv : validR (R k) = true := by
                      cases hv : validR (R k)
                      · exact absurd (HQ.out k ▸ hq) (valR_no hv)
                      · rfl
                    have HV' := Lib.hid (fun W hb => (by have := HV.out W hb; rw [hv] at this; exact this : Calls Tryz.prog 78 #[rv s A1 n1 c1 B1 m1 d1] W fun e w' => e = .returned (.bool true) ∧ Below W.heap.size W w'))
                    have HS' := Lib.hid (fun W hb => HS.out W 1 hb (by rw [← HQ.out]; exact sgn_pos hq))
                    have HQ2 := Lib.hid (Rat.not_le.2 hq)
                    clear hv HV HS hq
                    by_cases hk9 : 0 < k
                    · have e7 : decide ((0 : Int) < (k : Int)) = true := by simp; omega
                      obtain ⟨b', off', s', A', n', c', B', m', d', eb, -, p0, p1, p2, p3, p4, -⟩ := HM.out.at_ (show k - 1 < nm by omega)
                      injection eb with eb
                      injection eb with eb1 eb2
                      subst eb1 eb2
                      have hk2 : (1 : Int) ≤ (k : Int) := by omega
                      have hk3 : (k : Int) - 1 < (nm : Int) := by omega
                      have hcases : (F (k - 1) < F k ∨ F (k - 1) = F k ∧ T (k - 1) < T k) ∨ (F k < F (k - 1) ∨ F k = F (k - 1) ∧ T k ≤ T (k - 1)) := by omega
                      rcases hcases with hO | hO
                      · have HN := Lib.hid (mvE_next HMV.out (chkM_0 HFT.out HNE.out HQ2.out (fun h => h.2 hO)))
                        rcases hO with hO | ⟨hO, hO2⟩
                        · have a1 : decide (F k < F (k - 1)) = false := by simp; omega
                          have a2 : (F k == F (k - 1)) = false := by simp; omega
                          clear hO
                          (go_wp2_with fail; (with_reducible refine (HV'.out _ (by (skip); repeat' (first | (with_reducible exact Below.refl _ _) | (with_reducible assumption) | (with_reducible refine Below.alloc ?_ ?_ _) | (with_reducible refine Below.drew ?_) | (with_reducible refine below_drewN ?_ _) | (with_reducible refine Below.setCell ?_ ?_ _) | (with_reducible refine Below.trans ?_ (Below.mono (by with_reducible assumption) ?_)) | omega | (simp only [ZA, ZS, ZD, ZN]; omega) | go_size))).mono ?_); rintro e w4 ⟨rfl, hb4⟩; have hb4z := Below.size hb4; (try simp only [ZA, ZS, ZD, ZN] at hb4z); have hb4c0 := fun o => below_at hb4 (w.heap.size) o (by first | omega | (simp only [ZA, ZS, ZD, ZN]; omega)); have hb4f0 := fun o => below_fr hb4 (w.heap.size) o (by first | omega | (simp only [ZA, ZS, ZD, ZN]; omega)); have hb4c1 := fun o => below_at hb4 (wr.heap.size) o (by first | omega | (simp only [ZA, ZS, ZD, ZN]; omega)); have hb4f1 := fun o => below_fr hb4 (wr.heap.size) o (by first | omega | (simp only [ZA, ZS, ZD, ZN]; omega)))
                          (go_wp2_with fail; (with_reducible refine (HS'.out _ (by have z0 := Below.size hb4; (try simp only [ZA, ZS, ZD, ZN] at z0 ⊢; skip); repeat' (first | (with_reducible exact Below.refl _ _) | (with_reducible assumption) | (with_reducible refine Below.alloc ?_ ?_ _) | (with_reducible refine Below.drew ?_) | (with_reducible refine below_drewN ?_ _) | (with_reducible refine Below.setCell ?_ ?_ _) | (with_reducible refine Below.trans ?_ (Below.mono (by with_reducible assumption) ?_)) | omega | (simp only [ZA, ZS, ZD, ZN]; omega) | go_size))).mono ?_); rintro e w5 ⟨rfl, hb5⟩; have hb5z := Below.size hb5; (try simp only [ZA, ZS, ZD, ZN] at hb5z); have hb5c0 := fun o => below_at hb5 (w.heap.size) o (by first | omega | (simp only [ZA, ZS, ZD, ZN]; omega)); have hb5f0 := fun o => below_fr hb5 (w.heap.size) o (by first | omega | (simp only [ZA, ZS, ZD, ZN]; omega)); have hb5c1 := fun o => below_at hb5 (wr.heap.size) o (by first | omega | (simp only [ZA, ZS, ZD, ZN]; omega)); have hb5f1 := fun o => below_fr hb5 (wr.heap.size) o (by first | omega | (simp only [ZA, ZS, ZD, ZN]; omega)))
                          go_wp2
                          have HB5 : Below (wr.heap.size + 1) (wr.alloc (.cells #[.int .i64 (F k), .int .i64 (T k), .bool s, .slice A1 n1 c1, .slice B1 m1 d1] 65)) w5 := (by have z0 := Below.size hb4; have z1 := Below.size hb5; (try simp only [ZA, ZS, ZD, ZN] at z0 z1 ⊢; skip); repeat' (first | (with_reducible exact Below.refl _ _) | (with_reducible assumption) | (with_reducible refine Below.alloc ?_ ?_ _) | (with_reducible refine Below.drew ?_) | (with_reducible refine below_drewN ?_ _) | (with_reducible refine Below.setCell ?_ ?_ _) | (with_reducible refine Below.trans ?_ (Below.mono (by with_reducible assumption) ?_)) | omega | (simp only [ZA, ZS, ZD, ZN]; omega) | go_size))
                          have t5 : ∀ {g o : Nat} {v : Value}, (wr.alloc (.cells #[.int .i64 (F k), .int .i64 (T k), .bool s, .slice A1 n1 c1, .slice B1 m1 d1] 65)).cell? ⟨g, o, none⟩ = some v → w5.cell? ⟨g, o, none⟩ = some v := fun h => (HB5.cell (by have := lt_of_cell h; simp at this; exact this)).trans h
                          have tw : ∀ {o : Nat} {v : Value}, w.cell? ⟨b, o, none⟩ = some v → w5.cell? ⟨b, o, none⟩ = some v := fun h => t5 (Lib.cell?_alloc_some _ ((hbw.cell (lt_of_cell h)).trans h))
                          have q0 := fun y : Sub w5 => y.cell (tw p0)
                          have q1 := fun y : Sub w5 => y.cell (tw p1)
                          have q2 := fun y : Sub w5 => y.cell (tw p2)
                          have q3 := fun y : Sub w5 => y.cell (tw p3)
                          have q4 := fun y : Sub w5 => y.cell (tw p4)
                          have qv := fun y : Sub w5 => y.cell (t5 (Lib.cell?_alloc_some _ y2))
                          have qm0 := fun y : Sub w5 => y.cell (t5 (g := wr.heap.size) (o := 0) (v := .int .i64 (F k)) (by simp))
                          have qm1 := fun y : Sub w5 => y.cell (t5 (g := wr.heap.size) (o := 1) (v := .int .i64 (T k)) (by simp))
                          have qm2 := fun y : Sub w5 => y.cell (t5 (g := wr.heap.size) (o := 2) (v := .bool s) (by simp))
                          have qm3 := fun y : Sub w5 => y.cell (t5 (g := wr.heap.size) (o := 3) (v := .slice A1 n1 c1) (by simp))
                          have qm4 := fun y : Sub w5 => y.cell (t5 (g := wr.heap.size) (o := 4) (v := .slice B1 m1 d1) (by simp))
                          ((refine wp_region_quiet_bel (by kernel_rfl) (by kernel_rfl) ?_); (repeat (go_big_quiet_step (fail))); (refine wpQuiet_nil ?_); rintro w6 ⟨⟨_, hb6⟩, rfl⟩; (try dsimp only))
                          go_wp2
                          go_roundw
                          case rel => exact ⟨k + 1, by omega, by go_num, HN.out, hb.trans (by have z0 := Below.size hb4; have z1 := Below.size hb5; have z2 := Below.size hb6; (try simp only [ZA, ZS, ZD, ZN] at z0 z1 z2 ⊢; skip); repeat' (first | (with_reducible exact Below.refl _ _) | (with_reducible assumption) | (with_reducible refine Below.alloc ?_ ?_ _) | (with_reducible refine Below.drew ?_) | (with_reducible refine below_drewN ?_ _) | (with_reducible refine Below.setCell ?_ ?_ _) | (with_reducible refine Below.trans ?_ (Below.mono (by with_reducible assumption) ?_)) | omega | (simp only [ZA, ZS, ZD, ZN]; omega) | go_size))⟩
                          case measure => simp [intOf]; omega
                        · have a1 : decide (F k < F (k - 1)) = false := by simp; omega
                          have a2 : (F k == F (k - 1)) = true := by simp; omega
                          have a3 : decide (T k ≤ T (k - 1)) = false := by simp; omega
                          clear hO hO2
                          (go_wp2_with fail; (with_reducible refine (HV'.out _ (by (skip); repeat' (first | (with_reducible exact Below.refl _ _) | (with_reducible assumption) | (with_reducible refine Below.alloc ?_ ?_ _) | (with_reducible refine Below.drew ?_) | (with_reducible refine below_drewN ?_ _) | (with_reducible refine Below.setCell ?_ ?_ _) | (with_reducible refine Below.trans ?_ (Below.mono (by with_reducible assumption) ?_)) | omega | (simp only [ZA, ZS, ZD, ZN]; omega) | go_size))).mono ?_); rintro e w4 ⟨rfl, hb4⟩; have hb4z := Below.size hb4; (try simp only [ZA, ZS, ZD, ZN] at hb4z); have hb4c0 := fun o => below_at hb4 (w.heap.size) o (by first | omega | (simp only [ZA, ZS, ZD, ZN]; omega)); have hb4f0 := fun o => below_fr hb4 (w.heap.size) o (by first | omega | (simp only [ZA, ZS, ZD, ZN]; omega)); have hb4c1 := fun o => below_at hb4 (wr.heap.size) o (by first | omega | (simp only [ZA, ZS, ZD, ZN]; omega)); have hb4f1 := fun o => below_fr hb4 (wr.heap.size) o (by first | omega | (simp only [ZA, ZS, ZD, ZN]; omega)))
                          (go_wp2_with fail; (with_reducible refine (HS'.out _ (by have z0 := Below.size hb4; (try simp only [ZA, ZS, ZD, ZN] at z0 ⊢; skip); repeat' (first | (with_reducible exact Below.refl _ _) | (with_reducible assumption) | (with_reducible refine Below.alloc ?_ ?_ _) | (with_reducible refine Below.drew ?_) | (with_reducible refine below_drewN ?_ _) | (with_reducible refine Below.setCell ?_ ?_ _) | (with_reducible refine Below.trans ?_ (Below.mono (by with_reducible assumption) ?_)) | omega | (simp only [ZA, ZS, ZD, ZN]; omega) | go_size))).mono ?_); rintro e w5 ⟨rfl, hb5⟩; have hb5z := Below.size hb5; (try simp only [ZA, ZS, ZD, ZN] at hb5z); have hb5c0 := fun o => below_at hb5 (w.heap.size) o (by first | omega | (simp only [ZA, ZS, ZD, ZN]; omega)); have hb5f0 := fun o => below_fr hb5 (w.heap.size) o (by first | omega | (simp only [ZA, ZS, ZD, ZN]; omega)); have hb5c1 := fun o => below_at hb5 (wr.heap.size) o (by first | omega | (simp only [ZA, ZS, ZD, ZN]; omega)); have hb5f1 := fun o => below_fr hb5 (wr.heap.size) o (by first | omega | (simp only [ZA, ZS, ZD, ZN]; omega)))
                          go_wp2
                          have HB5 : Below (wr.heap.size + 1) (wr.alloc (.cells #[.int .i64 (F k), .int .i64 (T k), .bool s, .slice A1 n1 c1, .slice B1 m1 d1] 65)) w5 := (by have z0 := Below.size hb4; have z1 := Below.size hb5; (try simp only [ZA, ZS, ZD, ZN] at z0 z1 ⊢; skip); repeat' (first | (with_reducible exact Below.refl _ _) | (with_reducible assumption) | (with_reducible refine Below.alloc ?_ ?_ _) | (with_reducible refine Below.drew ?_) | (with_reducible refine below_drewN ?_ _) | (with_reducible refine Below.setCell ?_ ?_ _) | (with_reducible refine Below.trans ?_ (Below.mono (by with_reducible assumption) ?_)) | omega | (simp only [ZA, ZS, ZD, ZN]; omega) | go_size))
                          have t5 : ∀ {g o : Nat} {v : Value}, (wr.alloc (.cells #[.int .i64 (F k), .int .i64 (T k), .bool s, .slice A1 n1 c1, .slice B1 m1 d1] 65)).cell? ⟨g, o, none⟩ = some v → w5.cell? ⟨g, o, none⟩ = some v := fun h => (HB5.cell (by have := lt_of_cell h; simp at this; exact this)).trans h
                          have tw : ∀ {o : Nat} {v : Value}, w.cell? ⟨b, o, none⟩ = some v → w5.cell? ⟨b, o, none⟩ = some v := fun h => t5 (Lib.cell?_alloc_some _ ((hbw.cell (lt_of_cell h)).trans h))
                          have q0 := fun y : Sub w5 => y.cell (tw p0)
                          have q1 := fun y : Sub w5 => y.cell (tw p1)
                          have q2 := fun y : Sub w5 => y.cell (tw p2)
                          have q3 := fun y : Sub w5 => y.cell (tw p3)
                          have q4 := fun y : Sub w5 => y.cell (tw p4)
                          have qv := fun y : Sub w5 => y.cell (t5 (Lib.cell?_alloc_some _ y2))
                          have qm0 := fun y : Sub w5 => y.cell (t5 (g := wr.heap.size) (o := 0) (v := .int .i64 (F k)) (by simp))
                          have qm1 := fun y : Sub w5 => y.cell (t5 (g := wr.heap.size) (o := 1) (v := .int .i64 (T k)) (by simp))
                          have qm2 := fun y : Sub w5 => y.cell (t5 (g := wr.heap.size) (o := 2) (v := .bool s) (by simp))
                          have qm3 := fun y : Sub w5 => y.cell (t5 (g := wr.heap.size) (o := 3) (v := .slice A1 n1 c1) (by simp))
                          have qm4 := fun y : Sub w5 => y.cell (t5 (g := wr.heap.size) (o := 4) (v := .slice B1 m1 d1) (by simp))
                          ((refine wp_region_quiet_bel (by kernel_rfl) (by kernel_rfl) ?_); (repeat (go_big_quiet_step (fail))); (refine wpQuiet_nil ?_); rintro w6 ⟨⟨_, hb6⟩, rfl⟩; (try dsimp only))
                          go_wp2
                          go_roundw
                          case rel => exact ⟨k + 1, by omega, by go_num, HN.out, hb.trans (by have z0 := Below.size hb4; have z1 := Below.size hb5; have z2 := Below.size hb6; (try simp only [ZA, ZS, ZD, ZN] at z0 z1 z2 ⊢; skip); repeat' (first | (with_reducible exact Below.refl _ _) | (with_reducible assumption) | (with_reducible refine Below.alloc ?_ ?_ _) | (with_reducible refine Below.drew ?_) | (with_reducible refine below_drewN ?_ _) | (with_reducible refine Below.setCell ?_ ?_ _) | (with_reducible refine Below.trans ?_ (Below.mono (by with_reducible assumption) ?_)) | omega | (simp only [ZA, ZS, ZD, ZN]; omega) | go_size))⟩
                          case measure => simp [intOf]; omega
                      · have HE2 := Lib.hid (HE.out.trans (mvE_err HMV.out (chkM_13 HFT.out HNE.out HQ2.out ⟨hk9, by omega⟩) (by omega) hlt))
                        rcases hO with hO | ⟨hO, hO2⟩
                        · have a1 : decide (F k < F (k - 1)) = true := by simp; omega
                          clear hO
                          (go_wp2_with fail; (with_reducible refine (HV'.out _ (by (skip); repeat' (first | (with_reducible exact Below.refl _ _) | (with_reducible assumption) | (with_reducible refine Below.alloc ?_ ?_ _) | (with_reducible refine Below.drew ?_) | (with_reducible refine below_drewN ?_ _) | (with_reducible refine Below.setCell ?_ ?_ _) | (with_reducible refine Below.trans ?_ (Below.mono (by with_reducible assumption) ?_)) | omega | (simp only [ZA, ZS, ZD, ZN]; omega) | go_size))).mono ?_); rintro e w4 ⟨rfl, hb4⟩; have hb4z := Below.size hb4; (try simp only [ZA, ZS, ZD, ZN] at hb4z); have hb4c0 := fun o => below_at hb4 (w.heap.size) o (by first | omega | (simp only [ZA, ZS, ZD, ZN]; omega)); have hb4f0 := fun o => below_fr hb4 (w.heap.size) o (by first | omega | (simp only [ZA, ZS, ZD, ZN]; omega)); have hb4c1 := fun o => below_at hb4 (wr.heap.size) o (by first | omega | (simp only [ZA, ZS, ZD, ZN]; omega)); have hb4f1 := fun o => below_fr hb4 (wr.heap.size) o (by first | omega | (simp only [ZA, ZS, ZD, ZN]; omega)))
                          (go_wp2_with fail; (with_reducible refine (HS'.out _ (by have z0 := Below.size hb4; (try simp only [ZA, ZS, ZD, ZN] at z0 ⊢; skip); repeat' (first | (with_reducible exact Below.refl _ _) | (with_reducible assumption) | (with_reducible refine Below.alloc ?_ ?_ _) | (with_reducible refine Below.drew ?_) | (with_reducible refine below_drewN ?_ _) | (with_reducible refine Below.setCell ?_ ?_ _) | (with_reducible refine Below.trans ?_ (Below.mono (by with_reducible assumption) ?_)) | omega | (simp only [ZA, ZS, ZD, ZN]; omega) | go_size))).mono ?_); rintro e w5 ⟨rfl, hb5⟩; have hb5z := Below.size hb5; (try simp only [ZA, ZS, ZD, ZN] at hb5z); have hb5c0 := fun o => below_at hb5 (w.heap.size) o (by first | omega | (simp only [ZA, ZS, ZD, ZN]; omega)); have hb5f0 := fun o => below_fr hb5 (w.heap.size) o (by first | omega | (simp only [ZA, ZS, ZD, ZN]; omega)); have hb5c1 := fun o => below_at hb5 (wr.heap.size) o (by first | omega | (simp only [ZA, ZS, ZD, ZN]; omega)); have hb5f1 := fun o => below_fr hb5 (wr.heap.size) o (by first | omega | (simp only [ZA, ZS, ZD, ZN]; omega)))
                          go_wp2
                          have HB5 : Below (wr.heap.size + 1) (wr.alloc (.cells #[.int .i64 (F k), .int .i64 (T k), .bool s, .slice A1 n1 c1, .slice B1 m1 d1] 65)) w5 := (by have z0 := Below.size hb4; have z1 := Below.size hb5; (try simp only [ZA, ZS, ZD, ZN] at z0 z1 ⊢; skip); repeat' (first | (with_reducible exact Below.refl _ _) | (with_reducible assumption) | (with_reducible refine Below.alloc ?_ ?_ _) | (with_reducible refine Below.drew ?_) | (with_reducible refine below_drewN ?_ _) | (with_reducible refine Below.setCell ?_ ?_ _) | (with_reducible refine Below.trans ?_ (Below.mono (by with_reducible assumption) ?_)) | omega | (simp only [ZA, ZS, ZD, ZN]; omega) | go_size))
                          have t5 : ∀ {g o : Nat} {v : Value}, (wr.alloc (.cells #[.int .i64 (F k), .int .i64 (T k), .bool s, .slice A1 n1 c1, .slice B1 m1 d1] 65)).cell? ⟨g, o, none⟩ = some v → w5.cell? ⟨g, o, none⟩ = some v := fun h => (HB5.cell (by have := lt_of_cell h; simp at this; exact this)).trans h
                          have tw : ∀ {o : Nat} {v : Value}, w.cell? ⟨b, o, none⟩ = some v → w5.cell? ⟨b, o, none⟩ = some v := fun h => t5 (Lib.cell?_alloc_some _ ((hbw.cell (lt_of_cell h)).trans h))
                          have q0 := fun y : Sub w5 => y.cell (tw p0)
                          have q1 := fun y : Sub w5 => y.cell (tw p1)
                          have q2 := fun y : Sub w5 => y.cell (tw p2)
                          have q3 := fun y : Sub w5 => y.cell (tw p3)
                          have q4 := fun y : Sub w5 => y.cell (tw p4)
                          have qv := fun y : Sub w5 => y.cell (t5 (Lib.cell?_alloc_some _ y2))
                          have qm0 := fun y : Sub w5 => y.cell (t5 (g := wr.heap.size) (o := 0) (v := .int .i64 (F k)) (by simp))
                          have qm1 := fun y : Sub w5 => y.cell (t5 (g := wr.heap.size) (o := 1) (v := .int .i64 (T k)) (by simp))
                          have qm2 := fun y : Sub w5 => y.cell (t5 (g := wr.heap.size) (o := 2) (v := .bool s) (by simp))
                          have qm3 := fun y : Sub w5 => y.cell (t5 (g := wr.heap.size) (o := 3) (v := .slice A1 n1 c1) (by simp))
                          have qm4 := fun y : Sub w5 => y.cell (t5 (g := wr.heap.size) (o := 4) (v := .slice B1 m1 d1) (by simp))
                          ((refine wp_region_quiet_bel (by kernel_rfl) (by kernel_rfl) ?_); (repeat (go_big_quiet_step (fail))); (refine wpQuiet_nil ?_); rintro w6 ⟨⟨_, hb6⟩, rfl⟩; (try dsimp only))
                          go_wp2
                          go_ret
                          exact ⟨by rw [HE2.out]; rfl, hbw.trans (by have z0 := Below.size hb4; have z1 := Below.size hb5; have z2 := Below.size hb6; (try simp only [ZA, ZS, ZD, ZN] at z0 z1 z2 ⊢; skip); repeat' (first | (with_reducible exact Below.refl _ _) | (with_reducible assumption) | (with_reducible refine Below.alloc ?_ ?_ _) | (with_reducible refine Below.drew ?_) | (with_reducible refine below_drewN ?_ _) | (with_reducible refine Below.setCell ?_ ?_ _) | (with_reducible refine Below.trans ?_ (Below.mono (by with_reducible assumption) ?_)) | omega | (simp only [ZA, ZS, ZD, ZN]; omega) | go_size))⟩
                        · have a1 : decide (F k < F (k - 1)) = false := by simp; omega
                          have a2 : (F k == F (k - 1)) = true := by simp; omega
                          have a3 : decide (T k ≤ T (k - 1)) = true := by simp; omega
                          clear hO hO2
                          (go_wp2_with fail; (with_reducible refine (HV'.out _ (by (skip); repeat' (first | (with_reducible exact Below.refl _ _) | (with_reducible assumption) | (with_reducible refine Below.alloc ?_ ?_ _) | (with_reducible refine Below.drew ?_) | (with_reducible refine below_drewN ?_ _) | (with_reducible refine Below.setCell ?_ ?_ _) | (with_reducible refine Below.trans ?_ (Below.mono (by with_reducible assumption) ?_)) | omega | (simp only [ZA, ZS, ZD, ZN]; omega) | go_size))).mono ?_); rintro e w4 ⟨rfl, hb4⟩; have hb4z := Below.size hb4; (try simp only [ZA, ZS, ZD, ZN] at hb4z); have hb4c0 := fun o => below_at hb4 (w.heap.size) o (by first | omega | (simp only [ZA, ZS, ZD, ZN]; omega)); have hb4f0 := fun o => below_fr hb4 (w.heap.size) o (by first | omega | (simp only [ZA, ZS, ZD, ZN]; omega)); have hb4c1 := fun o => below_at hb4 (wr.heap.size) o (by first | omega | (simp only [ZA, ZS, ZD, ZN]; omega)); have hb4f1 := fun o => below_fr hb4 (wr.heap.size) o (by first | omega | (simp only [ZA, ZS, ZD, ZN]; omega)))
                          (go_wp2_with fail; (with_reducible refine (HS'.out _ (by have z0 := Below.size hb4; (try simp only [ZA, ZS, ZD, ZN] at z0 ⊢; skip); repeat' (first | (with_reducible exact Below.refl _ _) | (with_reducible assumption) | (with_reducible refine Below.alloc ?_ ?_ _) | (with_reducible refine Below.drew ?_) | (with_reducible refine below_drewN ?_ _) | (with_reducible refine Below.setCell ?_ ?_ _) | (with_reducible refine Below.trans ?_ (Below.mono (by with_reducible assumption) ?_)) | omega | (simp only [ZA, ZS, ZD, ZN]; omega) | go_size))).mono ?_); rintro e w5 ⟨rfl, hb5⟩; have hb5z := Below.size hb5; (try simp only [ZA, ZS, ZD, ZN] at hb5z); have hb5c0 := fun o => below_at hb5 (w.heap.size) o (by first | omega | (simp only [ZA, ZS, ZD, ZN]; omega)); have hb5f0 := fun o => below_fr hb5 (w.heap.size) o (by first | omega | (simp only [ZA, ZS, ZD, ZN]; omega)); have hb5c1 := fun o => below_at hb5 (wr.heap.size) o (by first | omega | (simp only [ZA, ZS, ZD, ZN]; omega)); have hb5f1 := fun o => below_fr hb5 (wr.heap.size) o (by first | omega | (simp only [ZA, ZS, ZD, ZN]; omega)))
                          go_wp2
                          have HB5 : Below (wr.heap.size + 1) (wr.alloc (.cells #[.int .i64 (F k), .int .i64 (T k), .bool s, .slice A1 n1 c1, .slice B1 m1 d1] 65)) w5 := (by have z0 := Below.size hb4; have z1 := Below.size hb5; (try simp only [ZA, ZS, ZD, ZN] at z0 z1 ⊢; skip); repeat' (first | (with_reducible exact Below.refl _ _) | (with_reducible assumption) | (with_reducible refine Below.alloc ?_ ?_ _) | (with_reducible refine Below.drew ?_) | (with_reducible refine below_drewN ?_ _) | (with_reducible refine Below.setCell ?_ ?_ _) | (with_reducible refine Below.trans ?_ (Below.mono (by with_reducible assumption) ?_)) | omega | (simp only [ZA, ZS, ZD, ZN]; omega) | go_size))
                          have t5 : ∀ {g o : Nat} {v : Value}, (wr.alloc (.cells #[.int .i64 (F k), .int .i64 (T k), .bool s, .slice A1 n1 c1, .slice B1 m1 d1] 65)).cell? ⟨g, o, none⟩ = some v → w5.cell? ⟨g, o, none⟩ = some v := fun h => (HB5.cell (by have := lt_of_cell h; simp at this; exact this)).trans h
                          have tw : ∀ {o : Nat} {v : Value}, w.cell? ⟨b, o, none⟩ = some v → w5.cell? ⟨b, o, none⟩ = some v := fun h => t5 (Lib.cell?_alloc_some _ ((hbw.cell (lt_of_cell h)).trans h))
                          have q0 := fun y : Sub w5 => y.cell (tw p0)
                          have q1 := fun y : Sub w5 => y.cell (tw p1)
                          have q2 := fun y : Sub w5 => y.cell (tw p2)
                          have q3 := fun y : Sub w5 => y.cell (tw p3)
                          have q4 := fun y : Sub w5 => y.cell (tw p4)
                          have qv := fun y : Sub w5 => y.cell (t5 (Lib.cell?_alloc_some _ y2))
                          have qm0 := fun y : Sub w5 => y.cell (t5 (g := wr.heap.size) (o := 0) (v := .int .i64 (F k)) (by simp))
                          have qm1 := fun y : Sub w5 => y.cell (t5 (g := wr.heap.size) (o := 1) (v := .int .i64 (T k)) (by simp))
                          have qm2 := fun y : Sub w5 => y.cell (t5 (g := wr.heap.size) (o := 2) (v := .bool s) (by simp))
                          have qm3 := fun y : Sub w5 => y.cell (t5 (g := wr.heap.size) (o := 3) (v := .slice A1 n1 c1) (by simp))
                          have qm4 := fun y : Sub w5 => y.cell (t5 (g := wr.heap.size) (o := 4) (v := .slice B1 m1 d1) (by simp))
                          ((refine wp_region_quiet_bel (by kernel_rfl) (by kernel_rfl) ?_); (repeat (go_big_quiet_step (fail))); (refine wpQuiet_nil ?_); rintro w6 ⟨⟨_, hb6⟩, rfl⟩; (try dsimp only))
                          go_wp2
                          go_ret
                          exact ⟨by rw [HE2.out]; rfl, hbw.trans (by have z0 := Below.size hb4; have z1 := Below.size hb5; have z2 := Below.size hb6; (try simp only [ZA, ZS, ZD, ZN] at z0 z1 z2 ⊢; skip); repeat' (first | (with_reducible exact Below.refl _ _) | (with_reducible assumption) | (with_reducible refine Below.alloc ?_ ?_ _) | (with_reducible refine Below.drew ?_) | (with_reducible refine below_drewN ?_ _) | (with_reducible refine Below.setCell ?_ ?_ _) | (with_reducible refine Below.trans ?_ (Below.mono (by with_reducible assumption) ?_)) | omega | (simp only [ZA, ZS, ZD, ZN]; omega) | go_size))⟩
                    · have e7 : decide ((0 : Int) < (k : Int)) = false := by simp; omega
                      have HN := Lib.hid (mvE_next HMV.out (chkM_0 HFT.out HNE.out HQ2.out (fun h => hk9 h.1)))
                      (go_wp2_with fail; (with_reducible refine (HV'.out _ (by (skip); repeat' (first | (with_reducible exact Below.refl _ _) | (with_reducible assumption) | (with_reducible refine Below.alloc ?_ ?_ _) | (with_reducible refine Below.drew ?_) | (with_reducible refine below_drewN ?_ _) | (with_reducible refine Below.setCell ?_ ?_ _) | (with_reducible refine Below.trans ?_ (Below.mono (by with_reducible assumption) ?_)) | omega | (simp only [ZA, ZS, ZD, ZN]; omega) | go_size))).mono ?_); rintro e w4 ⟨rfl, hb4⟩; have hb4z := Below.size hb4; (try simp only [ZA, ZS, ZD, ZN] at hb4z); have hb4c0 := fun o => below_at hb4 (w.heap.size) o (by first | omega | (simp only [ZA, ZS, ZD, ZN]; omega)); have hb4f0 := fun o => below_fr hb4 (w.heap.size) o (by first | omega | (simp only [ZA, ZS, ZD, ZN]; omega)); have hb4c1 := fun o => below_at hb4 (wr.heap.size) o (by first | omega | (simp only [ZA, ZS, ZD, ZN]; omega)); have hb4f1 := fun o => below_fr hb4 (wr.heap.size) o (by first | omega | (simp only [ZA, ZS, ZD, ZN]; omega)))
                      (go_wp2_with fail; (with_reducible refine (HS'.out _ (by have z0 := Below.size hb4; (try simp only [ZA, ZS, ZD, ZN] at z0 ⊢; skip); repeat' (first | (with_reducible exact Below.refl _ _) | (with_reducible assumption) | (with_reducible refine Below.alloc ?_ ?_ _) | (with_reducible refine Below.drew ?_) | (with_reducible refine below_drewN ?_ _) | (with_reducible refine Below.setCell ?_ ?_ _) | (with_reducible refine Below.trans ?_ (Below.mono (by with_reducible assumption) ?_)) | omega | (simp only [ZA, ZS, ZD, ZN]; omega) | go_size))).mono ?_); rintro e w5 ⟨rfl, hb5⟩; have hb5z := Below.size hb5; (try simp only [ZA, ZS, ZD, ZN] at hb5z); have hb5c0 := fun o => below_at hb5 (w.heap.size) o (by first | omega | (simp only [ZA, ZS, ZD, ZN]; omega)); have hb5f0 := fun o => below_fr hb5 (w.heap.size) o (by first | omega | (simp only [ZA, ZS, ZD, ZN]; omega)); have hb5c1 := fun o => below_at hb5 (wr.heap.size) o (by first | omega | (simp only [ZA, ZS, ZD, ZN]; omega)); have hb5f1 := fun o => below_fr hb5 (wr.heap.size) o (by first | omega | (simp only [ZA, ZS, ZD, ZN]; omega)))
                      go_wp2
                      ((refine wp_region_quiet_bel (by kernel_rfl) (by kernel_rfl) ?_); (repeat (go_big_quiet_step (fail))); (refine wpQuiet_nil ?_); rintro w6 ⟨⟨_, hb6⟩, rfl⟩; (try dsimp only))
                      go_wp2
                      go_roundw
                      case rel => exact ⟨k + 1, by omega, by go_num, HN.out, hb.trans (by have z0 := Below.size hb4; have z1 := Below.size hb5; have z2 := Below.size hb6; (try simp only [ZA, ZS, ZD, ZN] at z0 z1 z2 ⊢; skip); repeat' (first | (with_reducible exact Below.refl _ _) | (with_reducible assumption) | (with_reducible refine Below.alloc ?_ ?_ _) | (with_reducible refine Below.drew ?_) | (with_reducible refine below_drewN ?_ _) | (with_reducible refine Below.setCell ?_ ?_ _) | (with_reducible refine Below.trans ?_ (Below.mono (by with_reducible assumption) ?_)) | omega | (simp only [ZA, ZS, ZD, ZN]; omega) | go_size))⟩
                      case measure => simp [intOf]; omega
                  · have HE2 := Lib.hid (HE.out.trans (mvE_err HMV.out (chkM_3 HFT.out HNE.out (Rat.not_lt.1 hq)) (by omega) hlt))
                    rw [HQ.out] at hq
                    cases hv : validR (R k)
                    · rw [hv] at HV
                      clear hv hq HS
                      (go_wp2_with fail; (with_reducible refine (HV.out _ (by (skip); repeat' (first | (with_reducible exact Below.refl _ _) | (with_reducible assumption) | (with_reducible refine Below.alloc ?_ ?_ _) | (with_reducible refine Below.drew ?_) | (with_reducible refine below_drewN ?_ _) | (with_reducible refine Below.setCell ?_ ?_ _) | (with_reducible refine Below.trans ?_ (Below.mono (by with_reducible assumption) ?_)) | omega | (simp only [ZA, ZS, ZD, ZN]; omega) | go_size))).mono ?_); rintro e w4 ⟨rfl, hb4⟩; have hb4z := Below.size hb4; (try simp only [ZA, ZS, ZD, ZN] at hb4z); have hb4c0 := fun o => below_at hb4 (w.heap.size) o (by first | omega | (simp only [ZA, ZS, ZD, ZN]; omega)); have hb4f0 := fun o => below_fr hb4 (w.heap.size) o (by first | omega | (simp only [ZA, ZS, ZD, ZN]; omega)); have hb4c1 := fun o => below_at hb4 (wr.heap.size) o (by first | omega | (simp only [ZA, ZS, ZD, ZN]; omega)); have hb4f1 := fun o => below_fr hb4 (wr.heap.size) o (by first | omega | (simp only [ZA, ZS, ZD, ZN]; omega)))
                      go_wp2
                      go_ret
                      exact ⟨by rw [HE2.out]; rfl, hbw.trans (by have z0 := Below.size hb4; (try simp only [ZA, ZS, ZD, ZN] at z0 ⊢; skip); repeat' (first | (with_reducible exact Below.refl _ _) | (with_reducible assumption) | (with_reducible refine Below.alloc ?_ ?_ _) | (with_reducible refine Below.drew ?_) | (with_reducible refine below_drewN ?_ _) | (with_reducible refine Below.setCell ?_ ?_ _) | (with_reducible refine Below.trans ?_ (Below.mono (by with_reducible assumption) ?_)) | omega | (simp only [ZA, ZS, ZD, ZN]; omega) | go_size))⟩
                    · rw [hv] at HV
                      have hz9 : ∃ z : Int, z ≤ 0 ∧ sgnQ (valR (R k)) = z := by
                        rcases sgn_le hq with e | e
                        · exact ⟨0, by omega, e⟩
                        · exact ⟨-1, by omega, e⟩
                      obtain ⟨z, hz0, hz1⟩ := hz9
                      have HS' := Lib.hid (fun W hb => HS.out W z hb hz1)
                      have e6 : decide (z ≤ 0) = true := by simpa using hz0
                      clear hv hq HS hz1
                      (go_wp2_with fail; (with_reducible refine (HV.out _ (by (skip); repeat' (first | (with_reducible exact Below.refl _ _) | (with_reducible assumption) | (with_reducible refine Below.alloc ?_ ?_ _) | (with_reducible refine Below.drew ?_) | (with_reducible refine below_drewN ?_ _) | (with_reducible refine Below.setCell ?_ ?_ _) | (with_reducible refine Below.trans ?_ (Below.mono (by with_reducible assumption) ?_)) | omega | (simp only [ZA, ZS, ZD, ZN]; omega) | go_size))).mono ?_); rintro e w4 ⟨rfl, hb4⟩; have hb4z := Below.size hb4; (try simp only [ZA, ZS, ZD, ZN] at hb4z); have hb4c0 := fun o => below_at hb4 (w.heap.size) o (by first | omega | (simp only [ZA, ZS, ZD, ZN]; omega)); have hb4f0 := fun o => below_fr hb4 (w.heap.size) o (by first | omega | (simp only [ZA, ZS, ZD, ZN]; omega)); have hb4c1 := fun o => below_at hb4 (wr.heap.size) o (by first | omega | (simp only [ZA, ZS, ZD, ZN]; omega)); have hb4f1 := fun o => below_fr hb4 (wr.heap.size) o (by first | omega | (simp only [ZA, ZS, ZD, ZN]; omega)))
                      (go_wp2_with fail; (with_reducible refine (HS'.out _ (by have z0 := Below.size hb4; (try simp only [ZA, ZS, ZD, ZN] at z0 ⊢; skip); repeat' (first | (with_reducible exact Below.refl _ _) | (with_reducible assumption) | (with_reducible refine Below.alloc ?_ ?_ _) | (with_reducible refine Below.drew ?_) | (with_reducible refine below_drewN ?_ _) | (with_reducible refine Below.setCell ?_ ?_ _) | (with_reducible refine Below.trans ?_ (Below.mono (by with_reducible assumption) ?_)) | omega | (simp only [ZA, ZS, ZD, ZN]; omega) | go_size))).mono ?_); rintro e w5 ⟨rfl, hb5⟩; have hb5z := Below.size hb5; (try simp only [ZA, ZS, ZD, ZN] at hb5z); have hb5c0 := fun o => below_at hb5 (w.heap.size) o (by first | omega | (simp only [ZA, ZS, ZD, ZN]; omega)); have hb5f0 := fun o => below_fr hb5 (w.heap.size) o (by first | omega | (simp only [ZA, ZS, ZD, ZN]; omega)); have hb5c1 := fun o => below_at hb5 (wr.heap.size) o (by first | omega | (simp only [ZA, ZS, ZD, ZN]; omega)); have hb5f1 := fun o => below_fr hb5 (wr.heap.size) o (by first | omega | (simp only [ZA, ZS, ZD, ZN]; omega)))
                      go_wp2
                      go_ret
                      exact ⟨by rw [HE2.out]; rfl, hbw.trans (by have z0 := Below.size hb4; have z1 := Below.size hb5; (try simp only [ZA, ZS, ZD, ZN] at z0 z1 ⊢; skip); repeat' (first | (with_reducible exact Below.refl _ _) | (with_reducible assumption) | (with_reducible refine Below.alloc ?_ ?_ _) | (with_reducible refine Below.drew ?_) | (with_reducible refine below_drewN ?_ _) | (with_reducible refine Below.setCell ?_ ?_ _) | (with_reducible refine Below.trans ?_ (Below.mono (by with_reducible assumption) ?_)) | omega | (simp only [ZA, ZS, ZD, ZN]; omega) | go_size))⟩
          · have hkn : k = nm := by omega
            subst hkn
            have HE2 := Lib.hid (HE.out.trans HMV.out)
            go_wp2
            go_ret
            exact ⟨by rw [HE2.out]; rfl, hbw⟩
    · have HE := Lib.hid (HC.out.trans (codeC_11 h1 h2))
      have e3 : ((nd : Int) != st) = true := by simpa using h2
      have e4 : ((nd : Int) == st) = false := by simpa using h2
      clear h1 h2
      go_enter Tryz.func32, Tryz.ntmps32
      go_wp2
      go_ret
      exact ⟨by rw [HE.out]; rfl, hbA _⟩
end Go.Proofs.YtoiopnmphbnjaaaGreatDoor
