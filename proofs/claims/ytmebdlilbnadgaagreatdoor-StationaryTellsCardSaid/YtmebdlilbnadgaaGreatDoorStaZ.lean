/- Contracts of functions and lemmas, used by the proofs of the given statements. No condition beyond those that each lemma names. -/
import Derived.Test.YtmebdlilbnadgaaGreatDoorStaX
import Derived.Test.YtmebdlilbnadgaaGreatDoorStaRd
import Derived.Test.YtmebdlilbnadgaaGreatDoorLinX
import Derived.Test.YtmebdlilbnadgaaGreatDoorBaseBig
namespace Go.Proofs.YtmebdlilbnadgaaGreatDoor
open Go.RowKit
set_option linter.unusedSimpArgs false
set_option linter.unusedVariables false
set_option maxRecDepth 20000
attribute [local irreducible] nv wp win plainB validR valR canR mvE chkM codeC netS sumN dsum floG
/-! ## law52: brief; faultlinebase: Rows; package stationary: Closed, Accepts -/
set_option maxHeartbeats 4000000 in
theorem brief52_any {w : World} {b0 n c : Nat} {A : Option Addr} {R : Nat → Rw} (h : RowA w b0 A n R) :
    Calls Tryz.prog 24 #[.slice A n c] w fun e w' => RetB (Brief6 n R) e ∧ Below w.heap.size w w' := by
  have HA := Lib.hid h
  clear h
  by_cases h3 : 300 < n
  · have e1 : decide ((300 : Int) < (n : Int)) = true := by simp; omega
    go_enter Tryz.func24, Tryz.ntmps24
    go_wp2
    go_ret
    exact ⟨retB_f, Below.refl _ _⟩
  · have e1 : decide ((300 : Int) < (n : Int)) = false := by simp; omega
    have hn : n ≤ 300 := by omega
    clear h3
    go_enter Tryz.func24, Tryz.ntmps24
    go_wp2
    go_loopw [10] (fun i wr => ∃ k : Nat, k ≤ n ∧ i = .int .i64 (k : Int) ∧ (∀ j, j < k → (R j).2.1.length ≤ 6 ∧ (R j).2.2.length ≤ 6) ∧ Below w.heap.size w wr) (fun i _ => n - (intOf i).toNat)
    case atStart => exact ⟨0, Nat.zero_le _, rfl, fun j hj => by omega, Below.refl _ _⟩
    case round =>
      obtain ⟨k, hk, rfl, hv, hb⟩ := hrel
      have HV := Lib.hid hv
      clear hv
      by_cases hlt : k < n
      · obtain ⟨b, off, s1, A1, n1, c1, B1, m1, d1, rfl, hbb, f0, f1, f2, r1⟩ := HA.out.at_ hlt
        obtain ⟨l1, l2, -, -, -⟩ := r1.lens'
        have x0 := (hb.cell (lt_of_cell f0)).trans f0
        have x1 := (hb.cell (lt_of_cell f1)).trans f1
        have x2 := (hb.cell (lt_of_cell f2)).trans f2
        have hk0 : (0 : Int) ≤ (k : Int) := by omega
        have hki : (k : Int) < (n : Int) := by omega
        have HL1 := Lib.hid l1
        have HL2 := Lib.hid l2
        have hb9 : ∀ o, Below w.heap.size w (wr.alloc o) := fun o => hb.trans ((Below.refl _ _).alloc hb.size o)
        clear f0 f1 f2 r1 l1 l2
        by_cases hn1 : 6 < n1
        · have e2 : decide ((6 : Int) < (n1 : Int)) = true := by simp; omega
          go_wp2
          go_ret
          exact ⟨retB_f, hb9 _⟩
        · have e2 : decide ((6 : Int) < (n1 : Int)) = false := by simp; omega
          by_cases hn2 : 6 < m1
          · have e3 : decide ((6 : Int) < (m1 : Int)) = true := by simp; omega
            go_wp2
            go_ret
            exact ⟨retB_f, hb9 _⟩
          · have e3 : decide ((6 : Int) < (m1 : Int)) = false := by simp; omega
            go_wp2
            go_roundw
            case rel =>
              refine ⟨k + 1, by omega, by go_num, fun j hj => ?_, hb9 _⟩
              by_cases e : j = k
              · rw [e, HL1.out, HL2.out]; omega
              · exact HV.out j (by omega)
            case measure => simp [intOf]; omega
      · have hkn : k = n := by omega
        subst hkn
        go_wp2
        go_ret
        exact ⟨retB_t ⟨hn, HV.out⟩, hb⟩
/-- what Accepts answers -/
def Chn.accS (c : Chn) (n : Nat) (R : Nat → Rw) : Bool := if c.codeB n R = 0 then c.balB (vecQ n R) && decide (c.ncl = 1) else false
set_option maxHeartbeats 4000000 in
theorem AcceptsS_any {w : World} {AM AD AV : Option Addr} {cm cd n ca : Nat} {c : Chn} {R : Nat → Rw} (h : DistS w AM cm AD cd c AV n R) :
    Calls Tryz.prog 26 #[cv c.st c.sr AM c.nm cm AD c.nd cd, .slice AV n ca] w fun e w' => e = .returned (.tuple #[.bool (c.accS n R), errM (c.codeB n R)]) ∧ Below w.heap.size w w' := by
  have K1 := Lib.hid (fun W (hb : Below w.heap.size w W) => scheck_any (ca := ca) (h.below hb).ch h.sm.ch (h.below hb).v h.big h.n6)
  have HPB := Lib.hid (fun W hb => par_below (W := W) (w := w) (o := .cells #[.int .i64 c.st, .int .i64 c.sr, .slice AM c.nm cm, .slice AD c.nd cd] 25) hb)
  have hW0z : (w.alloc (.cells #[.int .i64 c.st, .int .i64 c.sr, .slice AM c.nm cm, .slice AD c.nd cd] 25)).heap.size = w.heap.size + 1 := by simp
  have hnm := h.sm.nm
  by_cases hB : c.codeB n R = 0
  · have ok := Chn.ok_iff.1 (Chn.codeB_0 hB).1
    have K2 := Lib.hid (fun W (hb : Below w.heap.size w W) => balS_any (ca := ca) (h.below hb) hB)
    have K3 := Lib.hid (fun W (hb : Below w.heap.size w W) => closed_any (h.below hb).ch ok (by omega))
    have HX : Hid (c.accS n R = (c.balB (vecQ n R) && decide (c.ncl = 1))) := by show c.accS n R = _; unfold Chn.accS; rw [if_pos hB]
    rw [hB, errM_0] at K1
    rw [hB, errM_0, HX.out]
    obtain ⟨bb, hbb⟩ : ∃ bb, bb = c.balB (vecQ n R) := ⟨_, rfl⟩
    obtain ⟨n9, hn9⟩ : ∃ n9, n9 = c.ncl := ⟨_, rfl⟩
    rw [← hbb] at K2 ⊢
    rw [← hn9] at K3 ⊢
    clear h hB hbb HX hn9 ok hnm
    cases bb
    · go_enter Tryz.func26, Tryz.ntmps26
      (go_wp2_with fail; (with_reducible refine (K1.out _ (by (skip); repeat' (first | (with_reducible exact Below.refl _ _) | (with_reducible assumption) | (with_reducible refine Below.alloc ?_ ?_ _) | (with_reducible refine Below.drew ?_) | (with_reducible refine below_drewN ?_ _) | (with_reducible refine Below.setCell ?_ ?_ _) | (with_reducible refine Below.trans ?_ (Below.mono (by with_reducible assumption) ?_)) | omega | (simp only [ZA, ZS, ZD, ZN]; omega) | go_size))).mono ?_); rintro e w1 ⟨rfl, hb1⟩; have hb1z := Below.size hb1; (try simp only [ZA, ZS, ZD, ZN] at hb1z); have hb1c0 := fun o => below_at hb1 (w.heap.size) o (by first | omega | (simp only [ZA, ZS, ZD, ZN]; omega)); have hb1f0 := fun o => below_fr hb1 (w.heap.size) o (by first | omega | (simp only [ZA, ZS, ZD, ZN]; omega)))
      have hB1 := HPB.out w1 (by rw [← hW0z]; exact hb1)
      (go_wp2_with fail; (with_reducible refine (K2.out _ hB1).mono ?_); rintro e w2 ⟨rfl, hb2⟩; have hb2z := Below.size hb2; (try simp only [ZA, ZS, ZD, ZN] at hb2z))
      go_wp2
      go_ret2
      exact ⟨rfl, hB1.trans (hb2.mono hB1.size)⟩
    · by_cases h1 : n9 = 1
      · have e1 : ((n9 : Int) == 1) = true := by simp [h1]
        have HD := Lib.hid (decide_eq_true h1)
        clear h1
        go_enter Tryz.func26, Tryz.ntmps26
        (go_wp2_with fail; (with_reducible refine (K1.out _ (by (skip); repeat' (first | (with_reducible exact Below.refl _ _) | (with_reducible assumption) | (with_reducible refine Below.alloc ?_ ?_ _) | (with_reducible refine Below.drew ?_) | (with_reducible refine below_drewN ?_ _) | (with_reducible refine Below.setCell ?_ ?_ _) | (with_reducible refine Below.trans ?_ (Below.mono (by with_reducible assumption) ?_)) | omega | (simp only [ZA, ZS, ZD, ZN]; omega) | go_size))).mono ?_); rintro e w1 ⟨rfl, hb1⟩; have hb1z := Below.size hb1; (try simp only [ZA, ZS, ZD, ZN] at hb1z); have hb1c0 := fun o => below_at hb1 (w.heap.size) o (by first | omega | (simp only [ZA, ZS, ZD, ZN]; omega)); have hb1f0 := fun o => below_fr hb1 (w.heap.size) o (by first | omega | (simp only [ZA, ZS, ZD, ZN]; omega)))
        have hB1 := HPB.out w1 (by rw [← hW0z]; exact hb1)
        (go_wp2_with fail; (with_reducible refine (K2.out _ hB1).mono ?_); rintro e w2 ⟨rfl, hb2⟩; have hb2z := Below.size hb2; (try simp only [ZA, ZS, ZD, ZN] at hb2z); have hb2c0 := fun o => below_at hb2 (w.heap.size) o (by first | omega | (simp only [ZA, ZS, ZD, ZN]; omega)); have hb2f0 := fun o => below_fr hb2 (w.heap.size) o (by first | omega | (simp only [ZA, ZS, ZD, ZN]; omega)))
        have hB2 := hB1.trans (hb2.mono hB1.size)
        (go_wp2_with fail; (with_reducible refine (K3.out _ hB2).mono ?_); rintro e w3 ⟨⟨A3, c3, rfl, -⟩, hb3⟩; have hb3z := Below.size hb3; (try simp only [ZA, ZS, ZD, ZN] at hb3z))
        go_wp2
        go_ret2
        exact ⟨by rw [HD.out]; rfl, hB2.trans (hb3.mono hB2.size)⟩
      · have e1 : ((n9 : Int) == 1) = false := by simp; omega
        have HD := Lib.hid (decide_eq_false h1)
        clear h1
        go_enter Tryz.func26, Tryz.ntmps26
        (go_wp2_with fail; (with_reducible refine (K1.out _ (by (skip); repeat' (first | (with_reducible exact Below.refl _ _) | (with_reducible assumption) | (with_reducible refine Below.alloc ?_ ?_ _) | (with_reducible refine Below.drew ?_) | (with_reducible refine below_drewN ?_ _) | (with_reducible refine Below.setCell ?_ ?_ _) | (with_reducible refine Below.trans ?_ (Below.mono (by with_reducible assumption) ?_)) | omega | (simp only [ZA, ZS, ZD, ZN]; omega) | go_size))).mono ?_); rintro e w1 ⟨rfl, hb1⟩; have hb1z := Below.size hb1; (try simp only [ZA, ZS, ZD, ZN] at hb1z); have hb1c0 := fun o => below_at hb1 (w.heap.size) o (by first | omega | (simp only [ZA, ZS, ZD, ZN]; omega)); have hb1f0 := fun o => below_fr hb1 (w.heap.size) o (by first | omega | (simp only [ZA, ZS, ZD, ZN]; omega)))
        have hB1 := HPB.out w1 (by rw [← hW0z]; exact hb1)
        (go_wp2_with fail; (with_reducible refine (K2.out _ hB1).mono ?_); rintro e w2 ⟨rfl, hb2⟩; have hb2z := Below.size hb2; (try simp only [ZA, ZS, ZD, ZN] at hb2z); have hb2c0 := fun o => below_at hb2 (w.heap.size) o (by first | omega | (simp only [ZA, ZS, ZD, ZN]; omega)); have hb2f0 := fun o => below_fr hb2 (w.heap.size) o (by first | omega | (simp only [ZA, ZS, ZD, ZN]; omega)))
        have hB2 := hB1.trans (hb2.mono hB1.size)
        (go_wp2_with fail; (with_reducible refine (K3.out _ hB2).mono ?_); rintro e w3 ⟨⟨A3, c3, rfl, -⟩, hb3⟩; have hb3z := Below.size hb3; (try simp only [ZA, ZS, ZD, ZN] at hb3z))
        go_wp2
        go_ret2
        exact ⟨by rw [HD.out]; rfl, hB2.trans (hb3.mono hB2.size)⟩
  · have HX : Hid (c.accS n R = false) := by show c.accS n R = _; unfold Chn.accS; rw [if_neg hB]
    rw [errM_n hB] at K1
    rw [errM_n hB, HX.out]
    clear h hB HX hnm
    go_enter Tryz.func26, Tryz.ntmps26
    (go_wp2_with fail; (with_reducible refine (K1.out _ (by (skip); repeat' (first | (with_reducible exact Below.refl _ _) | (with_reducible assumption) | (with_reducible refine Below.alloc ?_ ?_ _) | (with_reducible refine Below.drew ?_) | (with_reducible refine below_drewN ?_ _) | (with_reducible refine Below.setCell ?_ ?_ _) | (with_reducible refine Below.trans ?_ (Below.mono (by with_reducible assumption) ?_)) | omega | (simp only [ZA, ZS, ZD, ZN]; omega) | go_size))).mono ?_); rintro e w1 ⟨rfl, hb1⟩; have hb1z := Below.size hb1; (try simp only [ZA, ZS, ZD, ZN] at hb1z); have hb1c0 := fun o => below_at hb1 (w.heap.size) o (by first | omega | (simp only [ZA, ZS, ZD, ZN]; omega)); have hb1f0 := fun o => below_fr hb1 (w.heap.size) o (by first | omega | (simp only [ZA, ZS, ZD, ZN]; omega)))
    have hB1 := HPB.out w1 (by rw [← hW0z]; exact hb1)
    go_wp2
    go_ret2
    exact ⟨rfl, hB1⟩
end Go.Proofs.YtmebdlilbnadgaaGreatDoor
