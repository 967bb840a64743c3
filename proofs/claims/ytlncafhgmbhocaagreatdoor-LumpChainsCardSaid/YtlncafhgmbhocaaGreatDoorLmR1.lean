/- Contracts of functions and lemmas, used by the proofs of the given statements. No condition beyond those that each lemma names. -/
import Derived.Test.YtlncafhgmbhocaaGreatDoorJLmW1
import Derived.Test.YtlncafhgmbhocaaGreatDoorJChW1
namespace Go.Proofs.YtlncafhgmbhocaaGreatDoor
open Go.RowKit
set_option linter.unusedSimpArgs false
set_option linter.unusedVariables false
set_option maxRecDepth 20000
attribute [local irreducible] nv wp win plainB validR valR canR mvE chkM codeC cntB ixB kept nrm isF firS
/-! ## the reference of law51: Error, norm -/
set_option maxHeartbeats 4000000 in
theorem lrErr_any {w : World} {AM AD AV : Option Addr} {cm cd n ca : Nat} {c : Chn} {P : Nat → Int} (h : ChI w w.heap.size AM cm AD cd c) (hs : ChS c 400) (hv : PaI w AV n P) (hn : n ≤ 1000000) :
    Calls Tryz.prog 51 #[cv c.st c.sr AM c.nm cm AD c.nd cd, .slice AV n ca] w fun e w' => e = .returned (.int .i64 (c.codeL n P)) ∧ Below w.heap.size w w' := by
  have K1 := Lib.hid (fun W (hb : Below w.heap.size w W) => rchCheck (h.below hb) hs.nm hs.short)
  have HPB := Lib.hid (fun W hb => par_below (W := W) (w := w) (o := .cells #[.int .i64 c.st, .int .i64 c.sr, .slice AM c.nm cm, .slice AD c.nd cd] 25) hb)
  have HPC := Lib.hid (fun W hb => par_cells (W := W) (w := w) (a := .int .i64 c.st) (b := .int .i64 c.sr) (d := .slice AM c.nm cm) (e := .slice AD c.nd cd) (t := 25) hb)
  have hW0z : (w.alloc (.cells #[.int .i64 c.st, .int .i64 c.sr, .slice AM c.nm cm, .slice AD c.nd cd] 25)).heap.size = w.heap.size + 1 := by simp
  by_cases h0 : c.code = 0
  · have ok := Chn.ok_iff.1 h0
    have hst := ok.st
    rw [h0] at K1
    by_cases hnn : n = c.nd
    · have e1 : ((n : Int) != c.st) = false := by rw [hst]; simp [hnn]
      have HA := Lib.hid hv
      have HXV : Hid (∀ k, k < n → ¬ (0 ≤ P k ∧ P k < (c.nd : Int)) → c.codeL n P = 3) := fun k hk hx => Chn.codeL_v h0 hnn (inP_no hk hx)
      have HXZ : Hid ((∀ k, k < n → 0 ≤ P k ∧ P k < (c.nd : Int)) → c.codeL n P = 0) := fun hx => Chn.codeL_z h0 hnn (inP_iff.2 hx)
      have HST := Lib.hid hst
      obtain ⟨N, hN⟩ : ∃ N : Int, N = c.codeL n P := ⟨_, rfl⟩
      rw [← hN] at HXV HXZ ⊢
      clear h hs hv ok hst hnn h0 hN
      go_enter Tryz.func51, Tryz.ntmps51
      (go_wp2_with fail; (with_reducible refine (K1.out _ (by (skip); repeat' (first | (with_reducible exact Below.refl _ _) | (with_reducible assumption) | (with_reducible refine Below.alloc ?_ ?_ _) | (with_reducible refine Below.drew ?_) | (with_reducible refine below_drewN ?_ _) | (with_reducible refine Below.setCell ?_ ?_ _) | (with_reducible refine Below.trans ?_ (Below.mono (by with_reducible assumption) ?_)) | omega | (simp only [ZA, ZS, ZD, ZN]; omega) | go_size))).mono ?_); rintro e w1 ⟨rfl, hb1⟩; have hb1z := Below.size hb1; (try simp only [ZA, ZS, ZD, ZN] at hb1z); have hb1c0 := fun o => below_at hb1 (w.heap.size) o (by first | omega | (simp only [ZA, ZS, ZD, ZN]; omega)); have hb1f0 := fun o => below_fr hb1 (w.heap.size) o (by first | omega | (simp only [ZA, ZS, ZD, ZN]; omega)))
      have hB1 : Below (w.heap.size + 1) (w.alloc (.cells #[.int .i64 c.st, .int .i64 c.sr, .slice AM c.nm cm, .slice AD c.nd cd] 25)) w1 := by rw [← hW0z]; exact hb1
      have HB1 := Lib.hid hB1
      clear hb1 hB1
      go_wp2
      go_loopw [20] (fun i wr => ∃ k : Nat, k ≤ n ∧ i = .int .i64 (k : Int) ∧ (∀ j, j < k → 0 ≤ P j ∧ P j < (c.nd : Int)) ∧ Below (w.heap.size + 1) w1 wr) (fun i _ => n - (intOf i).toNat)
      case atStart => exact ⟨0, Nat.zero_le _, rfl, fun j hj => by omega, Below.refl _ _⟩
      case round =>
        obtain ⟨k, hk, rfl, hv, hb⟩ := hrel
        have HV := Lib.hid hv
        clear hv hb1c0 hb1f0
        have hb1 := HB1.out.trans hb
        have hbw := HPB.out _ hb1
        by_cases hlt : k < n
        · obtain ⟨b, off, rfl, hbb, x0⟩ := HA.out.later hbw hlt
          obtain ⟨y0, -, -, -⟩ := HPC.out _ hb1
          rw [HST.out] at y0
          have hk0 : (0 : Int) ≤ (k : Int) := by omega
          have hki : (k : Int) < (n : Int) := by omega
          have hXV := HXV.out k hlt
          have HBW := Lib.hid hbw
          have HB := Lib.hid hb
          by_cases h1 : 0 ≤ P k
          · by_cases h2 : P k < (c.nd : Int)
            · have HN := Lib.hid (And.intro h1 h2)
              obtain ⟨x, hx⟩ : ∃ x, x = P k := ⟨_, rfl⟩
              rw [← hx] at x0 h1 h2
              have e3 : decide (x < 0) = false := by simp; omega
              have e4 : decide ((c.nd : Int) ≤ x) = false := by simp; omega
              clear hx hXV hb hb1 hbw h1 h2
              go_wp2
              go_roundw
              case rel =>
                refine ⟨k + 1, by omega, by go_num, fun j hj => ?_, HB.out⟩
                by_cases e : j = k
                · rw [e]; exact HN.out
                · exact HV.out j (by omega)
              case measure => simp [intOf]; omega
            · have HN := Lib.hid (hXV (fun e => h2 e.2))
              obtain ⟨x, hx⟩ : ∃ x, x = P k := ⟨_, rfl⟩
              rw [← hx] at x0 h1 h2
              have e3 : decide (x < 0) = false := by simp; omega
              have e4 : decide ((c.nd : Int) ≤ x) = true := by simp; omega
              clear hx hXV hb hb1 hbw h1 h2
              go_wp2
              go_ret
              exact ⟨by rw [HN.out]; rfl, HBW.out⟩
          · have HN := Lib.hid (hXV (fun e => h1 e.1))
            obtain ⟨x, hx⟩ : ∃ x, x = P k := ⟨_, rfl⟩
            rw [← hx] at x0 h1
            have e3 : decide (x < 0) = true := by simp; omega
            clear hx hXV hb hb1 hbw h1
            go_wp2
            go_ret
            exact ⟨by rw [HN.out]; rfl, HBW.out⟩
        · have hkn : k = n := by omega
          subst hkn
          have HN := Lib.hid (HXZ.out HV.out)
          have HBW := Lib.hid hbw
          clear hb hb1 hbw
          go_wp2
          go_ret
          exact ⟨by rw [HN.out]; rfl, HBW.out⟩
    · have e1 : ((n : Int) != c.st) = true := by rw [hst]; simp; omega
      have HX := Lib.hid (Chn.codeL_n (P := P) h0 hnn)
      clear h hs hv ok hst hnn
      go_enter Tryz.func51, Tryz.ntmps51
      (go_wp2_with fail; (with_reducible refine (K1.out _ (by (skip); repeat' (first | (with_reducible exact Below.refl _ _) | (with_reducible assumption) | (with_reducible refine Below.alloc ?_ ?_ _) | (with_reducible refine Below.drew ?_) | (with_reducible refine below_drewN ?_ _) | (with_reducible refine Below.setCell ?_ ?_ _) | (with_reducible refine Below.trans ?_ (Below.mono (by with_reducible assumption) ?_)) | omega | (simp only [ZA, ZS, ZD, ZN]; omega) | go_size))).mono ?_); rintro e w1 ⟨rfl, hb1⟩; have hb1z := Below.size hb1; (try simp only [ZA, ZS, ZD, ZN] at hb1z); have hb1c0 := fun o => below_at hb1 (w.heap.size) o (by first | omega | (simp only [ZA, ZS, ZD, ZN]; omega)); have hb1f0 := fun o => below_fr hb1 (w.heap.size) o (by first | omega | (simp only [ZA, ZS, ZD, ZN]; omega)))
      have hB1 := HPB.out w1 (by rw [← hW0z]; exact hb1)
      go_wp2
      go_ret
      exact ⟨by rw [HX.out]; rfl, hB1⟩
  · have HX := Lib.hid (Chn.codeL_a (n := n) (P := P) h0)
    obtain ⟨cc, hcc⟩ : ∃ cc, cc = c.code := ⟨_, rfl⟩
    rw [← hcc] at K1 h0 HX
    have e1 : (cc != 0) = true := by simpa using h0
    clear h hs hv h0 hcc
    go_enter Tryz.func51, Tryz.ntmps51
    (go_wp2_with fail; (with_reducible refine (K1.out _ (by (skip); repeat' (first | (with_reducible exact Below.refl _ _) | (with_reducible assumption) | (with_reducible refine Below.alloc ?_ ?_ _) | (with_reducible refine Below.drew ?_) | (with_reducible refine below_drewN ?_ _) | (with_reducible refine Below.setCell ?_ ?_ _) | (with_reducible refine Below.trans ?_ (Below.mono (by with_reducible assumption) ?_)) | omega | (simp only [ZA, ZS, ZD, ZN]; omega) | go_size))).mono ?_); rintro e w1 ⟨rfl, hb1⟩; have hb1z := Below.size hb1; (try simp only [ZA, ZS, ZD, ZN] at hb1z); have hb1c0 := fun o => below_at hb1 (w.heap.size) o (by first | omega | (simp only [ZA, ZS, ZD, ZN]; omega)); have hb1f0 := fun o => below_fr hb1 (w.heap.size) o (by first | omega | (simp only [ZA, ZS, ZD, ZN]; omega)))
    have hB1 := HPB.out w1 (by rw [← hW0z]; exact hb1)
    go_wp2
    go_ret
    exact ⟨by rw [HX.out]; rfl, hB1⟩
end Go.Proofs.YtlncafhgmbhocaaGreatDoor
