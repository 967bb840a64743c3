/- Contracts of functions and lemmas, used by the proofs of the given statements. No condition beyond those that each lemma names. -/
import Derived.Test.YtmebdlilbnadgaaGreatDoorStaY
import Derived.Test.YtmebdlilbnadgaaGreatDoorJBase
import Derived.Test.YtmebdlilbnadgaaGreatDoorJChX
namespace Go.Proofs.YtmebdlilbnadgaaGreatDoor
open Go.RowKit
set_option linter.unusedSimpArgs false
set_option linter.unusedVariables false
set_option maxRecDepth 20000
attribute [local irreducible] nv wp win plainB validR valR canR mvE chkM codeC netS sumN dsum floG
/-! ## reference: Error -/
set_option maxHeartbeats 8000000 in
theorem rerr52_any {w : World} {AM AD AV : Option Addr} {cm cd n ca : Nat} {c : Chn} {R : Nat → Rw} (h : ChI w w.heap.size AM cm AD cd c) (hs : ChS c 400) (hv : RowA w w.heap.size AV n R) (hz : BigS n R) (hn : n ≤ 1000000) :
    Calls Tryz.prog 25 #[cv c.st c.sr AM c.nm cm AD c.nd cd, .slice AV n ca] w fun e w' => e = .returned (.int .i64 (c.codeB n R)) ∧ Below w.heap.size w w' := by
  have K1 := Lib.hid (fun W (hb : Below w.heap.size w W) => rchCheck (h.below hb) hs.nm hs.short)
  have HPB := Lib.hid (fun W hb => par_below (W := W) (w := w) (o := .cells #[.int .i64 c.st, .int .i64 c.sr, .slice AM c.nm cm, .slice AD c.nd cd] 25) hb)
  have HPC := Lib.hid (fun W hb => par_cells (W := W) (w := w) (a := .int .i64 c.st) (b := .int .i64 c.sr) (d := .slice AM c.nm cm) (e := .slice AD c.nd cd) (t := 25) hb)
  have hW0z : (w.alloc (.cells #[.int .i64 c.st, .int .i64 c.sr, .slice AM c.nm cm, .slice AD c.nd cd] 25)).heap.size = w.heap.size + 1 := by simp
  by_cases h0 : c.code = 0
  · have ok := Chn.ok_iff.1 h0
    have hst := ok.st
    rw [h0] at K1
    by_cases hnn : n = c.nd
    · have e1 : ((n : Int) != c.st) = false := by rw [hst]; simp [hnn]
      have HXV : Hid (allV n R = false → c.codeB n R = 2) := fun hv0 => Chn.codeB_v h0 hnn hv0
      have HXZ : Hid (allV n R = true → c.codeB n R = 0) := fun hv0 => Chn.codeB_z h0 hnn hv0
      have HA := Lib.hid hv
      have HZ := Lib.hid hz
      obtain ⟨cc, hcc⟩ : ∃ cc, cc = c.codeB n R := ⟨_, rfl⟩
      rw [← hcc] at HXV HXZ ⊢
      clear h hs hv hz ok hst hnn hcc h0
      go_enter Tryz.func25, Tryz.ntmps25
      (go_wp2_with fail; (with_reducible refine (K1.out _ (by (skip); repeat' (first | (with_reducible exact Below.refl _ _) | (with_reducible assumption) | (with_reducible refine Below.alloc ?_ ?_ _) | (with_reducible refine Below.drew ?_) | (with_reducible refine below_drewN ?_ _) | (with_reducible refine Below.setCell ?_ ?_ _) | (with_reducible refine Below.trans ?_ (Below.mono (by with_reducible assumption) ?_)) | omega | (simp only [ZA, ZS, ZD, ZN]; omega) | go_size))).mono ?_); rintro e w1 ⟨rfl, hb1⟩; have hb1z := Below.size hb1; (try simp only [ZA, ZS, ZD, ZN] at hb1z))
      have hB1 : Below (w.heap.size + 1) (w.alloc (.cells #[.int .i64 c.st, .int .i64 c.sr, .slice AM c.nm cm, .slice AD c.nd cd] 25)) w1 := by simpa using hb1
      obtain ⟨y0, -, -, -⟩ := HPC.out _ hB1
      have HB1 := Lib.hid (HPB.out _ hB1)
      clear hb1 hB1
      go_wp2
      go_loopw [20] (fun i wr => ∃ k : Nat, k ≤ n ∧ i = .int .i64 (k : Int) ∧ (∀ j, j < k → validR (R j) = true) ∧ Below w.heap.size w wr) (fun i _ => n - (intOf i).toNat)
      case atStart => exact ⟨0, Nat.zero_le _, rfl, fun j hj => by omega, HB1.out⟩
      case round =>
        clear y0
        obtain ⟨k, hk, rfl, hv, hb⟩ := hrel
        have HV := Lib.hid hv
        clear hv
        have hbz := hb.size
        by_cases hlt : k < n
        · obtain ⟨b, off, s1, A1, n1, c1, B1, m1, d1, rfl, hbb, f0, f1, f2, r1⟩ := HA.out.at_ hlt
          obtain ⟨z1, z2⟩ := HZ.out k hlt
          have x0 := (hb.cell (lt_of_cell f0)).trans f0
          have x1 := (hb.cell (lt_of_cell f1)).trans f1
          have x2 := (hb.cell (lt_of_cell f2)).trans f2
          have K := Lib.hid (fun W (hb' : Below wr.heap.size wr W) => rvalidSB (r1.kp (Kp.of_below (hb.trans (hb'.mono hbz)))) z1 z2)
          have hk0 : (0 : Int) ≤ (k : Int) := by omega
          have hki : (k : Int) < (n : Int) := by omega
          clear f0 f1 f2 r1
          cases hv : validR (R k)
          · rw [hv] at K
            have HN := Lib.hid (HXV.out (allV_no hlt hv))
            clear hv
            (go_wp2_with fail; (with_reducible refine (K.out _ (by (skip); repeat' (first | (with_reducible exact Below.refl _ _) | (with_reducible assumption) | (with_reducible refine Below.alloc ?_ ?_ _) | (with_reducible refine Below.drew ?_) | (with_reducible refine below_drewN ?_ _) | (with_reducible refine Below.setCell ?_ ?_ _) | (with_reducible refine Below.trans ?_ (Below.mono (by with_reducible assumption) ?_)) | omega | (simp only [ZA, ZS, ZD, ZN]; omega) | go_size))).mono ?_); rintro e w2 ⟨rfl, hb2⟩; have hb2z := Below.size hb2; (try simp only [ZA, ZS, ZD, ZN] at hb2z))
            go_wp2
            go_ret
            exact ⟨by rw [HN.out]; rfl, hb.trans (by have z0 := Below.size hb2; (try simp only [ZA, ZS, ZD, ZN] at z0 ⊢; skip); repeat' (first | (with_reducible exact Below.refl _ _) | (with_reducible assumption) | (with_reducible refine Below.alloc ?_ ?_ _) | (with_reducible refine Below.drew ?_) | (with_reducible refine below_drewN ?_ _) | (with_reducible refine Below.setCell ?_ ?_ _) | (with_reducible refine Below.trans ?_ (Below.mono (by with_reducible assumption) ?_)) | omega | (simp only [ZA, ZS, ZD, ZN]; omega) | go_size))⟩
          · rw [hv] at K
            have HN := Lib.hid hv
            clear hv
            (go_wp2_with fail; (with_reducible refine (K.out _ (by (skip); repeat' (first | (with_reducible exact Below.refl _ _) | (with_reducible assumption) | (with_reducible refine Below.alloc ?_ ?_ _) | (with_reducible refine Below.drew ?_) | (with_reducible refine below_drewN ?_ _) | (with_reducible refine Below.setCell ?_ ?_ _) | (with_reducible refine Below.trans ?_ (Below.mono (by with_reducible assumption) ?_)) | omega | (simp only [ZA, ZS, ZD, ZN]; omega) | go_size))).mono ?_); rintro e w2 ⟨rfl, hb2⟩; have hb2z := Below.size hb2; (try simp only [ZA, ZS, ZD, ZN] at hb2z))
            go_wp2
            go_roundw
            case rel =>
              refine ⟨k + 1, by omega, by go_num, fun j hj => ?_, hb.trans (by have z0 := Below.size hb2; (try simp only [ZA, ZS, ZD, ZN] at z0 ⊢; skip); repeat' (first | (with_reducible exact Below.refl _ _) | (with_reducible assumption) | (with_reducible refine Below.alloc ?_ ?_ _) | (with_reducible refine Below.drew ?_) | (with_reducible refine below_drewN ?_ _) | (with_reducible refine Below.setCell ?_ ?_ _) | (with_reducible refine Below.trans ?_ (Below.mono (by with_reducible assumption) ?_)) | omega | (simp only [ZA, ZS, ZD, ZN]; omega) | go_size))⟩
              by_cases e : j = k
              · rw [e]; exact HN.out
              · exact HV.out j (by omega)
            case measure => simp [intOf]; omega
        · have : k = n := by omega
          subst this
          have HN := Lib.hid (HXZ.out (allV_yes HV.out))
          go_wp2
          go_ret
          exact ⟨by rw [HN.out]; rfl, hb⟩
    · have e1 : ((n : Int) != c.st) = true := by rw [hst]; simp; omega
      have HX := Lib.hid (Chn.codeB_n (R := R) h0 hnn)
      clear h hs hv hz ok hst hnn h0
      go_enter Tryz.func25, Tryz.ntmps25
      (go_wp2_with fail; (with_reducible refine (K1.out _ (by (skip); repeat' (first | (with_reducible exact Below.refl _ _) | (with_reducible assumption) | (with_reducible refine Below.alloc ?_ ?_ _) | (with_reducible refine Below.drew ?_) | (with_reducible refine below_drewN ?_ _) | (with_reducible refine Below.setCell ?_ ?_ _) | (with_reducible refine Below.trans ?_ (Below.mono (by with_reducible assumption) ?_)) | omega | (simp only [ZA, ZS, ZD, ZN]; omega) | go_size))).mono ?_); rintro e w1 ⟨rfl, hb1⟩; have hb1z := Below.size hb1; (try simp only [ZA, ZS, ZD, ZN] at hb1z); have hb1c0 := fun o => below_at hb1 (w.heap.size) o (by first | omega | (simp only [ZA, ZS, ZD, ZN]; omega)); have hb1f0 := fun o => below_fr hb1 (w.heap.size) o (by first | omega | (simp only [ZA, ZS, ZD, ZN]; omega)))
      have hB1 := HPB.out w1 (by rw [← hW0z]; exact hb1)
      go_wp2
      go_ret
      exact ⟨by rw [HX.out]; rfl, hB1⟩
  · have HX := Lib.hid (Chn.codeB_a (n := n) (R := R) h0)
    obtain ⟨cc, hcc⟩ : ∃ cc, cc = c.code := ⟨_, rfl⟩
    rw [← hcc] at K1 HX h0
    have e5 : (cc != 0) = true := by simpa using h0
    have e6 : (cc == 0) = false := by simpa using h0
    clear h hs hv hz h0 hcc
    go_enter Tryz.func25, Tryz.ntmps25
    (go_wp2_with fail; (with_reducible refine (K1.out _ (by (skip); repeat' (first | (with_reducible exact Below.refl _ _) | (with_reducible assumption) | (with_reducible refine Below.alloc ?_ ?_ _) | (with_reducible refine Below.drew ?_) | (with_reducible refine below_drewN ?_ _) | (with_reducible refine Below.setCell ?_ ?_ _) | (with_reducible refine Below.trans ?_ (Below.mono (by with_reducible assumption) ?_)) | omega | (simp only [ZA, ZS, ZD, ZN]; omega) | go_size))).mono ?_); rintro e w1 ⟨rfl, hb1⟩; have hb1z := Below.size hb1; (try simp only [ZA, ZS, ZD, ZN] at hb1z); have hb1c0 := fun o => below_at hb1 (w.heap.size) o (by first | omega | (simp only [ZA, ZS, ZD, ZN]; omega)); have hb1f0 := fun o => below_fr hb1 (w.heap.size) o (by first | omega | (simp only [ZA, ZS, ZD, ZN]; omega)))
    have hB1 := HPB.out w1 (by rw [← hW0z]; exact hb1)
    go_wp2
    go_ret
    exact ⟨by rw [HX.out]; rfl, hB1⟩
end Go.Proofs.YtmebdlilbnadgaaGreatDoor
