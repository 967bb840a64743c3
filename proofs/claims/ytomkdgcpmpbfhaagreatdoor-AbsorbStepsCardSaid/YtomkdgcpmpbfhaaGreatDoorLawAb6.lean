/- Contracts of functions and lemmas, used by the proofs of the given statements. No condition beyond those that each lemma names. -/
import Derived.Test.YtomkdgcpmpbfhaaGreatDoorJLawTr
import Derived.Test.YtomkdgcpmpbfhaaGreatDoorTrWG
import Derived.Test.YtomkdgcpmpbfhaaGreatDoorJLinY
import Derived.Test.YtomkdgcpmpbfhaaGreatDoorEndR
import Derived.Test.YtomkdgcpmpbfhaaGreatDoorAcB
import Derived.Test.YtomkdgcpmpbfhaaGreatDoorAbL
namespace Go.Proofs.YtomkdgcpmpbfhaaGreatDoor
open Go.RowKit
set_option linter.unusedSimpArgs false
set_option linter.unusedVariables false
set_option maxRecDepth 20000
attribute [local irreducible] nv wp win plainB validR valR canR mvE chkM codeC spr sprN chg cnt cntB ixB kept sysK plB parM outK gj sumN exK maxF dsum
/-! ## AbsorbSteps -/
theorem Chn.fast_ge {c : Chn} (ok : c.Ok) : 0 ≤ c.fast := by
  have h1 : c.ex 0 ≤ c.fast := maxF_ge (x := c.ex) (by omega)
  have h2 : 0 ≤ c.ex 0 := exK_nonneg (Chn.q_pos ok)
  grind
theorem Chn.rate_N {c : Chn} (ok : c.Ok) {n : Int} (h0 : 0 ≤ n) (h1 : n ≤ 48) : c.codeN (canR (c.fast + 1)) n = 0 := by
  have hf := Chn.fast_ge ok
  unfold Chn.codeN
  have : c.codeR (canR (c.fast + 1)) = 0 := by
    unfold Chn.codeR
    rw [if_neg (by have := Chn.ok_iff.2 ok; omega), valR_canR, if_neg]
    rintro (h | h)
    · exact h (by grind)
    · grind
  rw [if_neg (by omega), if_neg (by omega)]
theorem sgn_le0 {q : Rat} (h : q ≤ 0) : ∃ z : Int, sgnQ q = z ∧ decide (0 < z) = false := by
  by_cases h0 : q = 0
  · rw [h0]; exact ⟨0, rfl, by decide⟩
  · exact ⟨-1, sgn_neg (Rat.lt_of_le_of_ne h h0), by decide⟩
set_option maxHeartbeats 16000000 in
theorem absorbSteps_law {w : World} {AM AD : Option Addr} {cm cd p : Nat} {c : Chn} (h : ChI w w.heap.size AM cm AD cd c) (hp : p < 256) :
    Calls Tryz.prog 6 #[cv c.st c.sr AM c.nm cm AD c.nd cd, .int .u8 (p : Int)] w fun e w' => e = .returned (.bool true) ∧ Below w.heap.size w w' := by
  have KF := Lib.hid (fun W (hb : Below w.heap.size w W) => valid54_any (h.below hb))
  have hbA : Below w.heap.size w (w.alloc (.cells #[.int .i64 c.st, .int .i64 c.sr, .slice AM c.nm cm, .slice AD c.nd cd] 25)) := (Below.refl _ _).alloc (Nat.le_refl _) _
  have HBA := Lib.hid hbA
  have HI := Lib.hid h
  clear h hbA
  go_enter Tryz.func6, Tryz.ntmps6
  (go_wp2_with fail; (with_reducible refine (KF.out _ HBA.out).mono ?_); rintro e w1 ⟨⟨bb, rfl, hbb⟩, hb1⟩; have hb1z := Below.size hb1; (try simp only [ZA, ZS, ZD, ZN] at hb1z); have hb1c0 := fun o => below_at hb1 (w.heap.size) o (by first | omega | (simp only [ZA, ZS, ZD, ZN]; omega)); have hb1f0 := fun o => below_fr hb1 (w.heap.size) o (by first | omega | (simp only [ZA, ZS, ZD, ZN]; omega)))
  have hB1 : Below w.heap.size w w1 := HBA.out.trans (hb1.mono (by simp))
  cases bb with
  | false =>
    clear hbb
    (go_wp2_with fail; (with_reducible refine (awake4_any _).mono ?_); rintro e w2 ⟨rfl, hb2⟩; have hb2z := Below.size hb2; (try simp only [ZA, ZS, ZD, ZN] at hb2z))
    go_wp2
    go_ret
    exact ⟨rfl, hB1.trans (hb2.mono hB1.size)⟩
  | true =>
    have HF := Lib.hid (hbb rfl)
    clear hbb
    have hw1 : w.heap.size < w1.heap.size := by have := hb1.size; simp at this; omega
    have hS := HF.out.1.small HI.out
    have h0 := HF.out.2
    have ok := Chn.codeA_ok h0
    have hst := ok.st
    have hn9 := hS.nd ok
    have hf0 := Chn.fast_ge ok
    have hr20 := hS.rate20 ok
    obtain ⟨rt, hrt⟩ : ∃ rt, rt = c.fast + 1 := ⟨_, rfl⟩
    have hrp : 0 < rt := by rw [hrt]; grind
    have hle : c.fast ≤ rt := by rw [hrt]; grind
    rw [← hrt] at hr20
    obtain ⟨k, hk⟩ : ∃ k, k = p % 6 := ⟨_, rfl⟩
    have hk5 : k ≤ 5 := by omega
    have t1 : Int.tmod (p : Int) 6 = (k : Int) := by rw [Int.tmod_eq_emod_of_nonneg (by omega), hk]; rfl
    have t3 : (p : Int) % 6 = (k : Int) := by rw [hk]; rfl
    have t5 : IntKind.i64.wrap (k : Int) = (k : Int) := by rw [IntKind.wrap_i64]; omega
    have hN : ∀ n : Int, 0 ≤ n → n ≤ 48 → c.codeN (canR rt) n = 0 := fun n h1 h2 => by rw [hrt]; exact Chn.rate_N ok h1 h2
    have hl20 : (canR rt).2.1.length ≤ 20 ∧ (canR rt).2.2.length ≤ 20 := Sz_canR hr20
    have hv20 : Sz 20 (valR (canR rt)) := by rw [valR_canR]; exact hr20
    have HDN : Hid (∀ j, j ≤ k → Sz 400 (c.dn true rt j) ∧ ∀ s, s < c.nd → Sz 400 (c.run true rt j s)) := fun j hj => by
      have := (hS.dnG (n := (k : Int)) hv20 (by omega) true).ds (hN _ (by omega) (by omega)) j (by omega)
      rw [valR_canR] at this
      exact ⟨this.1 c.nd (Nat.le_refl _), this.2⟩
    have HTK : Hid (sumN (fun j => (1 - c.dn true rt j) / rt) k + c.left rt k = c.times c.sr.toNat) := Chn.ticks h0 hrp k
    have HLF : Hid (0 ≤ c.left rt k) := Chn.left_ge h0 hrp hle k
    have HTS : Hid (∀ s, Sz 220000001 (c.times s)) := fun s => ((hS.sol_fz h0 false : FzL 220000000 c.times).sz (by omega) s).more (by omega)
    have KFa : Hid (∀ W, Below w.heap.size w W → Calls Tryz.prog 26 #[cv c.st c.sr AM c.nm cm AD c.nd cd] W fun e w' => (∃ v, e = .returned (.tuple #[v, .nilIface]) ∧ RdS w' 0 v (canR c.fast)) ∧ Below W.heap.size W w') := fun W hb => (fastest_any (HI.out.below hb) hS.chS).mono fun e w' h => ⟨by have := h.1; unfold RetQe at this; rwa [if_pos (Chn.codeA_0 h0).1] at this, h.2⟩
    have KT : Hid (∀ W, Below w.heap.size w W → Calls Tryz.prog 10 #[cv c.st c.sr AM c.nm cm AD c.nd cd] W fun e w' => (∃ A d, e = .returned (.tuple #[.slice A c.nd d, .nilIface]) ∧ RowA w' w'.heap.size A c.nd (can c.times)) ∧ Below W.heap.size W w') := fun W hb => (Times_any (HI.out.below hb) hS.sysS).mono fun e w' h => ⟨by have := h.1; rw [h0, outN_0] at this; obtain ⟨A, d, e1, r⟩ := this; rw [errM_0] at e1; exact ⟨A, d, e1, r⟩, h.2⟩
    have KFi : Hid (∀ W v, Below w.heap.size w W → RdS W W.heap.size v (canR rt) → Calls Tryz.prog 29 #[cv c.st c.sr AM c.nm cm AD c.nd cd, v, .int .i64 (k : Int)] W fun e w' => (∃ A d, e = .returned (.tuple #[.slice A (k + 1) d, .nilIface]) ∧ RowA w' w'.heap.size A (k + 1) (can (c.dn true rt)) ∧ k + 1 ≤ d) ∧ Below W.heap.size W w') := fun W v hb hv => (First_anyG (n := (k : Int)) (HI.out.below hb) hS.chS hv hl20.1 hl20.2 (hS.dnG hv20 (by omega) true)).mono fun e w' h => ⟨by
      have h1 := h.1
      unfold RetVx at h1
      rw [if_pos (hN _ (by omega) (by omega)), valR_canR] at h1
      obtain ⟨A, d, b, e1, hb1, ho⟩ := h1
      exact ⟨A, d, e1, ho.ra.base hb1, ho.cap⟩, h.2⟩
    have KEn : Hid (∀ W, Below w.heap.size w W → Calls Tryz.prog 31 #[cv c.st c.sr AM c.nm cm AD c.nd cd] W fun e w' => (∃ A' c', e = .returned (cv c.st c.sr A' c.ending.nm c' AD c.nd cd) ∧ ChI w' w'.heap.size A' c' AD cd c.ending) ∧ Below W.heap.size W w') := fun W hb => ending_any (HI.out.below hb) ok (by have := hS.nm; omega)
    have hSe : Small c.ending := hS.some ok
    have KAf : Hid (∀ W v A' c', ChI W W.heap.size A' c' AD cd c.ending → RdS W W.heap.size v (canR rt) → Calls Tryz.prog 30 #[cv c.st c.sr A' c.ending.nm c' AD c.nd cd, v, .int .i64 (k : Int)] W fun e w' => (∃ A d, e = .returned (.tuple #[.slice A c.nd d, .nilIface]) ∧ RowA w' w'.heap.size A c.nd (can (c.run true rt k))) ∧ Below W.heap.size W w') := fun W v A' c' hi hv => (after_anyG (n := (k : Int)) hi hSe.chS hv hl20.1 hl20.2 (hSe.stG hv20 (by omega) false)).mono fun e w' h => ⟨by
      have h1 := h.1
      unfold RetVx at h1
      have hcN : c.ending.codeN (canR rt) (k : Int) = 0 := Chn.some_codeN (hN _ (by omega) (by omega))
      rw [if_pos hcN, valR_canR] at h1
      obtain ⟨A, d, b, e1, hb1, ho⟩ := h1
      have e2 : c.ending.run false rt (k : Int).toNat = c.run true rt k := Chn.ending_run c rt k
      rw [e2] at ho
      exact ⟨A, d, e1, ho.ra.base hb1⟩, h.2⟩
    have KCk : Hid (∀ W, Below w.heap.size w W → Calls Tryz.prog 32 #[cv c.st c.sr AM c.nm cm AD c.nd cd] W fun e w' => e = .returned (.int .i64 0) ∧ Below W.heap.size W w') := fun W hb => by
      have := rchCheck (HI.out.below hb) (by have := hS.nm; omega) (hS.siz ok).short
      rw [(Chn.codeA_0 h0).1] at this
      exact this
    have K1 : Hid (∀ W : World, Calls Tryz.prog 28 #[.int .i64 1] W fun e w' => RetQ W.heap.size ((1 : Nat) : Rat) e w' ∧ Below W.heap.size W w') := fun W => ofQ 1 W (by omega)
    have e1 : ((c.nd : Int) != c.st) = false := by rw [hst]; simp
    have HST := Lib.hid hst
    clear hst hk
    (go_wp2_with fail; (with_reducible refine (awake4_any _).mono ?_); rintro e w2 ⟨rfl, hb2⟩; have hb2z := Below.size hb2; (try simp only [ZA, ZS, ZD, ZN] at hb2z); have hb2c0 := fun o => below_at hb2 (w.heap.size) o (by first | omega | (simp only [ZA, ZS, ZD, ZN]; omega)); have hb2f0 := fun o => below_fr hb2 (w.heap.size) o (by first | omega | (simp only [ZA, ZS, ZD, ZN]; omega)))
    have hB2 : Below w.heap.size w w2 := hB1.trans (hb2.mono hB1.size)
    (go_wp2_with fail; (with_reducible refine (KFa.out _ hB2).mono ?_); rintro e w3 ⟨⟨v3, rfl, r3⟩, hb3⟩; have hb3z := Below.size hb3; (try simp only [ZA, ZS, ZD, ZN] at hb3z); have hb3c0 := fun o => below_at hb3 (w.heap.size) o (by first | omega | (simp only [ZA, ZS, ZD, ZN]; omega)); have hb3f0 := fun o => below_fr hb3 (w.heap.size) o (by first | omega | (simp only [ZA, ZS, ZD, ZN]; omega)))
    have hB3 : Below w.heap.size w w3 := hB2.trans (hb3.mono hB2.size)
    obtain ⟨s3, A3, n3, c3, B3, m3, d3, rfl⟩ := r3.form
    have hz3 : w.heap.size < w3.heap.size := by have := hb2.size; have := hb3.size; omega
    have y0 : ∀ i, w3.cell? ⟨w.heap.size, i, none⟩ = (w.alloc (.cells #[.int .i64 c.st, .int .i64 c.sr, .slice AM c.nm cm, .slice AD c.nd cd] 25)).cell? ⟨w.heap.size, i, none⟩ := fun i => by rw [hb3c0, hb2c0, hb1c0]
    have u0 : w3.cell? ⟨w.heap.size, 0, none⟩ = some (.int .i64 c.st) := by rw [y0]; simp
    have u1 : w3.cell? ⟨w.heap.size, 1, none⟩ = some (.int .i64 c.sr) := by rw [y0]; simp
    have u2 : w3.cell? ⟨w.heap.size, 2, none⟩ = some (.slice AM c.nm cm) := by rw [y0]; simp
    have u3 : w3.cell? ⟨w.heap.size, 3, none⟩ = some (.slice AD c.nd cd) := by rw [y0]; simp
    have q3 := r3.canQ ((hS.fast18 ok).more (show 18 ≤ 20 by omega))
    have hB3c := Lib.hid hB3
    have KAd : Hid (∀ W b v, Below w3.heap.size w3 W → OwQ W b v ((1 : Nat) : Rat) → Calls Tryz.prog 27 #[rv s3 A3 n3 c3 B3 m3 d3, v] W fun e w' => RetQ W.heap.size rt e w' ∧ Below W.heap.size W w') := by
      show ∀ _, _
      intro W b v hb hv
      rw [hrt]
      exact addQ (q3.below hb) (hv.rq (L := 20) (Sz.one (by omega))) (by omega) (by omega)
    have HS := Lib.hid hS
    have H0 := Lib.hid h0
    have HOK := Lib.hid ok
    have HRP := Lib.hid hrp
    have HLE := Lib.hid hle
    have HR20 := Lib.hid hr20
    clear hb1 hb2 hb3 hb1c0 hb2c0 hb3c0 hb1f0 hb2f0 hb3f0 y0 hB1 hB2 hB3 r3 q3 hS h0 ok hf0 hrt hrp hle hN hl20 hv20 hSe hr20 HF HI KF HBA KFa
    go_upto_region 6 with fail
    have hbW0 : Below w3.heap.size w3 (w3.alloc (.cells #[.bool s3, .slice A3 n3 c3, .slice B3 m3 d3] 50)) := (Below.refl _ _).alloc (Nat.le_refl _) _
    have hW0z : (w3.alloc (.cells #[.bool s3, .slice A3 n3 c3, .slice B3 m3 d3] 50)).heap.size = w3.heap.size + 1 := by simp
    have x0 : (w3.alloc (.cells #[.bool s3, .slice A3 n3 c3, .slice B3 m3 d3] 50)).cell? ⟨w3.heap.size, 0, none⟩ = some (.bool s3) := by simp
    have x1 : (w3.alloc (.cells #[.bool s3, .slice A3 n3 c3, .slice B3 m3 d3] 50)).cell? ⟨w3.heap.size, 1, none⟩ = some (.slice A3 n3 c3) := by simp
    have x2 : (w3.alloc (.cells #[.bool s3, .slice A3 n3 c3, .slice B3 m3 d3] 50)).cell? ⟨w3.heap.size, 2, none⟩ = some (.slice B3 m3 d3) := by simp
    generalize w3.alloc (.cells #[.bool s3, .slice A3 n3 c3, .slice B3 m3 d3] 50) = W0 at *
    have hlt0 : w3.heap.size < W0.heap.size := by omega
    have U0 := (hbW0.cell (p := ⟨w.heap.size, 0, none⟩) hz3).trans u0
    have U1 := (hbW0.cell (p := ⟨w.heap.size, 1, none⟩) hz3).trans u1
    have U2 := (hbW0.cell (p := ⟨w.heap.size, 2, none⟩) hz3).trans u2
    have U3 := (hbW0.cell (p := ⟨w.heap.size, 3, none⟩) hz3).trans u3
    have KA2 : Hid (∀ W b v, Below W0.heap.size W0 W → OwQ W b v ((1 : Nat) : Rat) → Calls Tryz.prog 27 #[rv s3 A3 n3 c3 B3 m3 d3, v] W fun e w' => RetQ W.heap.size rt e w' ∧ Below W.heap.size W w') := fun W b v hb hv => KAd.out W b v (hbW0.trans (hb.mono hbW0.size)) hv
    have HBW0 : Hid (Below w.heap.size w W0) := hB3c.out.trans (hbW0.mono hB3c.out.size)
    have ne1 : ¬ (w3.heap.size = W0.heap.size) := by omega
    have ne2 : ¬ (W0.heap.size = w3.heap.size) := by omega
    clear u0 u1 u2 u3 KAd hB3c hW0z
    go_cut [7] from 37 (fun q wx => Res13 W0 W0.heap.size rt q wx)
    case first =>
      go_region_held3 (fun W => W.cell? ⟨w3.heap.size, 0, none⟩ = some (.bool s3) ∧ W.cell? ⟨w3.heap.size, 1, none⟩ = some (.slice A3 n3 c3) ∧ W.cell? ⟨w3.heap.size, 2, none⟩ = some (.slice B3 m3 d3)) (go_keep)
        (first | ((go_at_call 28; (with_reducible refine (K1.out _).mono ?_); rintro e w4 ⟨⟨v4, rfl, own4⟩, hb4⟩; have hb4z := Below.size hb4; (try simp only [ZA, ZS, ZD] at hb4z); have hb4c0 := fun o => below_at hb4 (w3.heap.size) o (by first | omega | (simp only [ZA, ZS, ZD]; omega)); have hb4f0 := fun o => below_fr hb4 (w3.heap.size) o (by first | omega | (simp only [ZA, ZS, ZD]; omega)); have hb4l0 : w3.heap.size < (w4).heap.size := (by omega); have hb4c1 := fun o => below_at hb4 (W0.heap.size) o (by first | omega | (simp only [ZA, ZS, ZD]; omega)); have hb4f1 := fun o => below_fr hb4 (W0.heap.size) o (by first | omega | (simp only [ZA, ZS, ZD]; omega)); have hb4l1 : W0.heap.size < (w4).heap.size := (by omega))) | ((go_at_call 28; (with_reducible refine (K1.out _).mono ?_); rintro e w4 ⟨⟨v4, rfl, own4⟩, hb4⟩; have hb4z := Below.size hb4; (try simp only [ZA, ZS, ZD] at hb4z); have hb4c0 := fun o => below_at hb4 (w3.heap.size) o (by first | omega | (simp only [ZA, ZS, ZD]; omega)); have hb4f0 := fun o => below_fr hb4 (w3.heap.size) o (by first | omega | (simp only [ZA, ZS, ZD]; omega)); have hb4l0 : w3.heap.size < (w4).heap.size := (by omega))) | ((go_at_call 27; (with_reducible refine (KA2.out _ _ _ (by have z0 := Below.size hb4; (try simp only [ZA, ZS, ZD, ZN] at z0 ⊢; skip); repeat' (first | (with_reducible exact Below.refl _ _) | (with_reducible assumption) | (with_reducible refine Below.alloc ?_ ?_ _) | (with_reducible refine Below.drew ?_) | (with_reducible refine below_drewN ?_ _) | (with_reducible refine Below.setCell ?_ ?_ _) | (with_reducible refine Below.trans ?_ (Below.mono (by with_reducible assumption) ?_)) | omega | (simp only [ZA, ZS, ZD, ZN]; omega) | go_size)) own4).mono ?_); rintro e w5 ⟨⟨v5, rfl, own5⟩, hb5⟩; have hb5z := Below.size hb5; (try simp only [ZA, ZS, ZD] at hb5z); have hb5c0 := fun o => below_at hb5 (w3.heap.size) o (by first | omega | (simp only [ZA, ZS, ZD]; omega)); have hb5f0 := fun o => below_fr hb5 (w3.heap.size) o (by first | omega | (simp only [ZA, ZS, ZD]; omega)); have hb5l0 : w3.heap.size < (w5).heap.size := (by omega); have hb5c1 := fun o => below_at hb5 (W0.heap.size) o (by first | omega | (simp only [ZA, ZS, ZD]; omega)); have hb5f1 := fun o => below_fr hb5 (W0.heap.size) o (by first | omega | (simp only [ZA, ZS, ZD]; omega)); have hb5l1 : W0.heap.size < (w5).heap.size := (by omega)); obtain ⟨s5, A5, n5, c5, B5, m5, d5, rfl⟩ := own5.form; (have zc0 : w5.cell? ⟨W0.heap.size, 0, none⟩ = some (.bool false) := (by rw [hb5c1, hb4c1]; simp)); (have zc1 : w5.cell? ⟨W0.heap.size, 1, none⟩ = some (.slice none 0 0) := (by rw [hb5c1, hb4c1]; simp)); (have zc2 : w5.cell? ⟨W0.heap.size, 2, none⟩ = some (.slice none 0 0) := (by rw [hb5c1, hb4c1]; simp)); (have zf : ∀ i, w5.frozen? ⟨W0.heap.size, i, none⟩ = false := fun i => (by rw [hb5f1, hb4f1]; simp))) | ((go_at_call 27; (with_reducible refine (KA2.out _ _ _ (by have z0 := Below.size hb4; (try simp only [ZA, ZS, ZD, ZN] at z0 ⊢; skip); repeat' (first | (with_reducible exact Below.refl _ _) | (with_reducible assumption) | (with_reducible refine Below.alloc ?_ ?_ _) | (with_reducible refine Below.drew ?_) | (with_reducible refine below_drewN ?_ _) | (with_reducible refine Below.setCell ?_ ?_ _) | (with_reducible refine Below.trans ?_ (Below.mono (by with_reducible assumption) ?_)) | omega | (simp only [ZA, ZS, ZD, ZN]; omega) | go_size)) own4).mono ?_); rintro e w5 ⟨⟨v5, rfl, own5⟩, hb5⟩; have hb5z := Below.size hb5; (try simp only [ZA, ZS, ZD] at hb5z); have hb5c0 := fun o => below_at hb5 (w3.heap.size) o (by first | omega | (simp only [ZA, ZS, ZD]; omega)); have hb5f0 := fun o => below_fr hb5 (w3.heap.size) o (by first | omega | (simp only [ZA, ZS, ZD]; omega)); have hb5l0 : w3.heap.size < (w5).heap.size := (by omega)); obtain ⟨s5, A5, n5, c5, B5, m5, d5, rfl⟩ := own5.form) | ((go_at_call 27; (with_reducible refine (KA2.out _ _ _ (by have z0 := Below.size hb4; (try simp only [ZA, ZS, ZD, ZN] at z0 ⊢; skip); repeat' (first | (with_reducible exact Below.refl _ _) | (with_reducible assumption) | (with_reducible refine Below.alloc ?_ ?_ _) | (with_reducible refine Below.drew ?_) | (with_reducible refine below_drewN ?_ _) | (with_reducible refine Below.setCell ?_ ?_ _) | (with_reducible refine Below.trans ?_ (Below.mono (by with_reducible assumption) ?_)) | omega | (simp only [ZA, ZS, ZD, ZN]; omega) | go_size)) (own4.alloc _)).mono ?_); rintro e w5 ⟨⟨v5, rfl, own5⟩, hb5⟩; have hb5z := Below.size hb5; (try simp only [ZA, ZS, ZD] at hb5z); have hb5c0 := fun o => below_at hb5 (w3.heap.size) o (by first | omega | (simp only [ZA, ZS, ZD]; omega)); have hb5f0 := fun o => below_fr hb5 (w3.heap.size) o (by first | omega | (simp only [ZA, ZS, ZD]; omega)); have hb5l0 : w3.heap.size < (w5).heap.size := (by omega); have hb5c1 := fun o => below_at hb5 (w4.heap.size) o (by first | omega | (simp only [ZA, ZS, ZD]; omega)); have hb5f1 := fun o => below_fr hb5 (w4.heap.size) o (by first | omega | (simp only [ZA, ZS, ZD]; omega)); have hb5l1 : w4.heap.size < (w5).heap.size := (by omega)); obtain ⟨s5, A5, n5, c5, B5, m5, d5, rfl⟩ := own5.form; have ne3 : ¬ (w4.heap.size = w3.heap.size) := (by omega); have ne4 : ¬ (w3.heap.size = w4.heap.size) := (by omega)) | fail)
      · go_wp2
        go_meet
        exact res13_new own5 (by have z0 := Below.size hb4; have z1 := Below.size hb5; (try simp only [ZA, ZS, ZD, ZN] at z0 z1 ⊢; skip); repeat' (first | (with_reducible exact Below.refl _ _) | (with_reducible assumption) | (with_reducible refine Below.alloc ?_ ?_ _) | (with_reducible refine Below.drew ?_) | (with_reducible refine below_drewN ?_ _) | (with_reducible refine Below.setCell ?_ ?_ _) | (with_reducible refine Below.trans ?_ (Below.mono (by with_reducible assumption) ?_)) | omega | (simp only [ZA, ZS, ZD, ZN]; omega) | go_size)) (by omega)
      · go_wp2
        go_meet
        exact res13_set (a' := .bool false) (b' := .slice none 0 0) (d' := .slice none 0 0) own5 (by have z0 := Below.size hb4; have z1 := Below.size hb5; (try simp only [ZA, ZS, ZD, ZN] at z0 z1 ⊢; skip); repeat' (first | (with_reducible exact Below.refl _ _) | (with_reducible assumption) | (with_reducible refine Below.alloc ?_ ?_ _) | (with_reducible refine Below.drew ?_) | (with_reducible refine below_drewN ?_ _) | (with_reducible refine Below.setCell ?_ ?_ _) | (with_reducible refine Below.trans ?_ (Below.mono (by with_reducible assumption) ?_)) | omega | (simp only [ZA, ZS, ZD, ZN]; omega) | go_size)) (by omega) (by omega) ((RatB.new w4 _).below hb5 (by simp)) (by rw [hb5c1]; simp) (by rw [hb5c1]; simp) (by rw [hb5c1]; simp)
      · go_wp2
        go_meet
        have hB4 : RatB w4 W0.heap.size := by
          have h := RatB.new W0.drew #[.bool false, .slice none 0 0, .slice none 0 0]
          exact RatB.below (w := (W0.drew.alloc (.cells #[.bool false, .slice none 0 0, .slice none 0 0] 50))) h hb4 (by simp)
        exact res13_set (a' := .bool false) (b' := .slice none 0 0) (d' := .slice none 0 0) own5 (by have z0 := Below.size hb4; have z1 := Below.size hb5; (try simp only [ZA, ZS, ZD, ZN] at z0 z1 ⊢; skip); repeat' (first | (with_reducible exact Below.refl _ _) | (with_reducible assumption) | (with_reducible refine Below.alloc ?_ ?_ _) | (with_reducible refine Below.drew ?_) | (with_reducible refine below_drewN ?_ _) | (with_reducible refine Below.setCell ?_ ?_ _) | (with_reducible refine Below.trans ?_ (Below.mono (by with_reducible assumption) ?_)) | omega | (simp only [ZA, ZS, ZD, ZN]; omega) | go_size)) (by omega) (by omega) (hB4.below hb5 (by omega)) zc0 zc1 zc2
    case rest =>
      obtain ⟨o7, s7, A7, n7, c7, B7, m7, d7, rfl, ho1, ho2, k0, k1, k2, kS, hbc⟩ := hcut
      have hzc := hbc.size
      have V0 := (hbc.cell (p := ⟨w.heap.size, 0, none⟩) (by show w.heap.size < _; omega)).trans U0
      have V1 := (hbc.cell (p := ⟨w.heap.size, 1, none⟩) (by show w.heap.size < _; omega)).trans U1
      have V2 := (hbc.cell (p := ⟨w.heap.size, 2, none⟩) (by show w.heap.size < _; omega)).trans U2
      have V3 := (hbc.cell (p := ⟨w.heap.size, 3, none⟩) (by show w.heap.size < _; omega)).trans U3
      have hbC : Below w.heap.size w wc := HBW0.out.trans (hbc.mono (by omega))
      have hwc : w.heap.size < wc.heap.size := by omega
      have KS := Lib.hid kS
      clear x0 x1 x2 U0 U1 U2 U3 hbW0 KA2 HBW0 hbc kS ne1 ne2
      (go_wp2_with fail; (with_reducible refine (KT.out _ hbC).mono ?_); rintro e w4 ⟨⟨A9, c9, rfl, r9⟩, hb4⟩; have hb4z := Below.size hb4; (try simp only [ZA, ZS, ZD, ZN] at hb4z); have hb4c0 := fun o => below_at hb4 (w.heap.size) o (by first | omega | (simp only [ZA, ZS, ZD, ZN]; omega)); have hb4f0 := fun o => below_fr hb4 (w.heap.size) o (by first | omega | (simp only [ZA, ZS, ZD, ZN]; omega)); have hb4c1 := fun o => below_at hb4 (o7) o (by first | omega | (simp only [ZA, ZS, ZD, ZN]; omega)); have hb4f1 := fun o => below_fr hb4 (o7) o (by first | omega | (simp only [ZA, ZS, ZD, ZN]; omega)))
      have hB4 : Below w.heap.size w w4 := hbC.trans (hb4.mono hbC.size)
      have KS4 := Lib.hid (KS.out.kp (Kp.of_below hb4))
      have R4 := Lib.hid r9
      clear r9
      (go_wp2_with fail; (with_reducible refine (KFi.out _ _ hB4 (KS4.out.base (Nat.zero_le _))).mono ?_); rintro e w5 ⟨⟨A11, c11, rfl, r11, hc11⟩, hb5⟩; have hb5z := Below.size hb5; (try simp only [ZA, ZS, ZD, ZN] at hb5z); have hb5c0 := fun o => below_at hb5 (w.heap.size) o (by first | omega | (simp only [ZA, ZS, ZD, ZN]; omega)); have hb5f0 := fun o => below_fr hb5 (w.heap.size) o (by first | omega | (simp only [ZA, ZS, ZD, ZN]; omega)); have hb5c1 := fun o => below_at hb5 (o7) o (by first | omega | (simp only [ZA, ZS, ZD, ZN]; omega)); have hb5f1 := fun o => below_fr hb5 (o7) o (by first | omega | (simp only [ZA, ZS, ZD, ZN]; omega)))
      have hB5 : Below w.heap.size w w5 := hB4.trans (hb5.mono hB4.size)
      have KS5 := Lib.hid (KS4.out.kp (Kp.of_below hb5))
      have R5 := Lib.hid (R4.out.below hb5)
      have F5 := Lib.hid r11
      have X0 : ∀ i, w5.cell? ⟨w.heap.size, i, none⟩ = wc.cell? ⟨w.heap.size, i, none⟩ := fun i => (hb5c0 i).trans (hb4c0 i)
      have X7 : ∀ i, w5.cell? ⟨o7, i, none⟩ = wc.cell? ⟨o7, i, none⟩ := fun i => (hb5c1 i).trans (hb4c1 i)
      have a0 := (X0 0).trans V0
      have a1 := (X0 1).trans V1
      have a2 := (X0 2).trans V2
      have a3 := (X0 3).trans V3
      have j0 := (X7 0).trans k0
      have j1 := (X7 1).trans k1
      have j2 := (X7 2).trans k2
      have HB5 := Lib.hid hB5
      have hz5 := hB5.size
      have ho5 : o7 < w5.heap.size := by have := hb4.size; have := hb5.size; omega
      have hw5 : w.heap.size < w5.heap.size := by have := hb4.size; have := hb5.size; omega
      clear r11 X0 X7 V0 V1 V2 V3 k0 k1 k2 hb4 hb5 hb4c0 hb4c1 hb4f0 hb4f1 hb5c0 hb5c1 hb5f0 hb5f1 hB4 hB5 hbC KS4 R4 KS
      go_wp2
      go_region_held3 (fun W => W.cell? ⟨w.heap.size, 0, none⟩ = some (.int .i64 c.st) ∧ W.cell? ⟨w.heap.size, 1, none⟩ = some (.int .i64 c.sr) ∧ W.cell? ⟨w.heap.size, 2, none⟩ = some (.slice AM c.nm cm) ∧ W.cell? ⟨w.heap.size, 3, none⟩ = some (.slice AD c.nd cd) ∧ W.cell? ⟨o7, 0, none⟩ = some (.bool s7) ∧ W.cell? ⟨o7, 1, none⟩ = some (.slice A7 n7 c7) ∧ W.cell? ⟨o7, 2, none⟩ = some (.slice B7 m7 d7)) (go_keep)
        (first | ((go_at_call 31; (with_reducible refine (KEn.out _ (HB5.out.trans ((show Below w5.heap.size w5 _ from (by (skip); repeat' (first | (with_reducible exact Below.refl _ _) | (with_reducible assumption) | (with_reducible refine Below.alloc ?_ ?_ _) | (with_reducible refine Below.drew ?_) | (with_reducible refine below_drewN ?_ _) | (with_reducible refine Below.setCell ?_ ?_ _) | (with_reducible refine Below.trans ?_ (Below.mono (by with_reducible assumption) ?_)) | omega | (simp only [ZA, ZS, ZD, ZN]; omega) | go_size))).mono hz5))).mono ?_); rintro e w6 ⟨⟨A6, c6, rfl, ci6⟩, hb6⟩; have hb6z := Below.size hb6; (try simp only [ZA, ZS, ZD] at hb6z); have hb6c0 := fun o => below_at hb6 (w.heap.size) o (by first | omega | (simp only [ZA, ZS, ZD]; omega)); have hb6f0 := fun o => below_fr hb6 (w.heap.size) o (by first | omega | (simp only [ZA, ZS, ZD]; omega)); have hb6l0 : w.heap.size < (w6).heap.size := (by omega); have hb6c1 := fun o => below_at hb6 (o7) o (by first | omega | (simp only [ZA, ZS, ZD]; omega)); have hb6f1 := fun o => below_fr hb6 (o7) o (by first | omega | (simp only [ZA, ZS, ZD]; omega)); have hb6l1 : o7 < (w6).heap.size := (by omega))) | ((go_at_call 30; (with_reducible refine (KAf.out _ _ _ _ (ci6.below (by (skip); repeat' (first | (with_reducible exact Below.refl _ _) | (with_reducible assumption) | (with_reducible refine Below.alloc ?_ ?_ _) | (with_reducible refine Below.drew ?_) | (with_reducible refine below_drewN ?_ _) | (with_reducible refine Below.setCell ?_ ?_ _) | (with_reducible refine Below.trans ?_ (Below.mono (by with_reducible assumption) ?_)) | omega | (simp only [ZA, ZS, ZD, ZN]; omega) | go_size))) ((KS5.out.kp (Kp.of_below (show Below w5.heap.size w5 _ from (by have z0 := Below.size hb6; (try simp only [ZA, ZS, ZD, ZN] at z0 ⊢; skip); repeat' (first | (with_reducible exact Below.refl _ _) | (with_reducible assumption) | (with_reducible refine Below.alloc ?_ ?_ _) | (with_reducible refine Below.drew ?_) | (with_reducible refine below_drewN ?_ _) | (with_reducible refine Below.setCell ?_ ?_ _) | (with_reducible refine Below.trans ?_ (Below.mono (by with_reducible assumption) ?_)) | omega | (simp only [ZA, ZS, ZD, ZN]; omega) | go_size))))).base (Nat.zero_le _))).mono ?_); rintro e w7 ⟨⟨A13, c13, rfl, r13⟩, hb7⟩; have hb7z := Below.size hb7; (try simp only [ZA, ZS, ZD] at hb7z); have hb7c0 := fun o => below_at hb7 (w.heap.size) o (by first | omega | (simp only [ZA, ZS, ZD]; omega)); have hb7f0 := fun o => below_fr hb7 (w.heap.size) o (by first | omega | (simp only [ZA, ZS, ZD]; omega)); have hb7l0 : w.heap.size < (w7).heap.size := (by omega); have hb7c1 := fun o => below_at hb7 (o7) o (by first | omega | (simp only [ZA, ZS, ZD]; omega)); have hb7f1 := fun o => below_fr hb7 (o7) o (by first | omega | (simp only [ZA, ZS, ZD]; omega)); have hb7l1 : o7 < (w7).heap.size := (by omega))) | fail)
      all_goals
        have hb57 : Below w5.heap.size w5 w7 := (by have z0 := Below.size hb6; have z1 := Below.size hb7; (try simp only [ZA, ZS, ZD, ZN] at z0 z1 ⊢; skip); repeat' (first | (with_reducible exact Below.refl _ _) | (with_reducible assumption) | (with_reducible refine Below.alloc ?_ ?_ _) | (with_reducible refine Below.drew ?_) | (with_reducible refine below_drewN ?_ _) | (with_reducible refine Below.setCell ?_ ?_ _) | (with_reducible refine Below.trans ?_ (Below.mono (by with_reducible assumption) ?_)) | omega | (simp only [ZA, ZS, ZD, ZN]; omega) | go_size))
        have hB7 : Below w.heap.size w w7 := HB5.out.trans (hb57.mono hz5)
        have R7 := Lib.hid (R5.out.below hb57)
        have F7 := Lib.hid (F5.out.below hb57)
        have KS7 := Lib.hid (KS5.out.kp (Kp.of_below hb57))
        have V7 := Lib.hid r13
        clear r13 ci6
        have t6 : IntKind.i64.wrap ((k : Int) + 1) = (k : Int) + 1 := by rw [IntKind.wrap_i64]; omega
        have t7 : (((k + 1 : Nat) : Int) != (k : Int) + 1) = false := by simp
        have t8 : ((k : Int) + 1 != (k : Int) + 1) = false := by simp
        (go_wp2_with fail; (with_reducible refine (KCk.out _ hB7).mono ?_); rintro e w8 ⟨rfl, hb8⟩; have hb8z := Below.size hb8; (try simp only [ZA, ZS, ZD, ZN] at hb8z); have hb8c0 := fun o => below_at hb8 (w.heap.size) o (by first | omega | (simp only [ZA, ZS, ZD, ZN]; omega)); have hb8f0 := fun o => below_fr hb8 (w.heap.size) o (by first | omega | (simp only [ZA, ZS, ZD, ZN]; omega)); have hb8c1 := fun o => below_at hb8 (o7) o (by first | omega | (simp only [ZA, ZS, ZD, ZN]; omega)); have hb8f1 := fun o => below_fr hb8 (o7) o (by first | omega | (simp only [ZA, ZS, ZD, ZN]; omega)))
        have hB8 : Below w.heap.size w w8 := hB7.trans (hb8.mono hB7.size)
        have hb58 : Below w5.heap.size w5 w8 := hb57.trans (hb8.mono hb57.size)
        have R8 := Lib.hid (R7.out.below hb8)
        have F8 := Lib.hid (F7.out.below hb8)
        have KS8 := Lib.hid (KS7.out.kp (Kp.of_below hb8))
        have V8 := Lib.hid (V7.out.below hb8)
        have i0 := (hb58.cell (p := ⟨w.heap.size, 0, none⟩) hw5).trans a0
        have i1 := (hb58.cell (p := ⟨w.heap.size, 1, none⟩) hw5).trans a1
        have j0' := (hb58.cell (p := ⟨o7, 0, none⟩) ho5).trans j0
        have j1' := (hb58.cell (p := ⟨o7, 1, none⟩) ho5).trans j1
        have j2' := (hb58.cell (p := ⟨o7, 2, none⟩) ho5).trans j2
        have hz58 := hb58.size
        have HB8 := Lib.hid hB8
        have t9 : (k : Int) ≤ (c11 : Int) := by omega
        have t10 : (0 : Int) ≤ (k : Int) := by omega
        obtain ⟨sr, hsr⟩ : ∃ sr : Nat, c.sr = (sr : Int) := ⟨c.sr.toNat, by have := HOK.out.s0; omega⟩
        have hsn : sr < c.nd := by have := HOK.out.s1; omega
        have HTK2 : Hid (sumN (fun j => (1 - c.dn true rt j) / rt) k + c.left rt k = c.times sr) := by have := HTK.out; rw [hsr, Int.toNat_natCast] at this; exact this
        rw [hsr] at i1
        obtain ⟨DN, hDN⟩ : ∃ DN, DN = c.dn true rt := ⟨_, rfl⟩
        obtain ⟨XT, hXT⟩ : ∃ XT, XT = c.times := ⟨_, rfl⟩
        obtain ⟨RN, hRN⟩ : ∃ RN, RN = c.run true rt k := ⟨_, rfl⟩
        obtain ⟨SB, hSB⟩ : ∃ SB : Nat → Rat, SB = sumN (fun j => (1 - DN j) / rt) := ⟨_, rfl⟩
        obtain ⟨PS, hPS⟩ : ∃ PS : Nat → Rat, PS = sumN (fun s => RN s * XT s) := ⟨_, rfl⟩
        have HD1 : Hid (∀ j, j ≤ k → Sz 400 (DN j)) := fun j hj => by rw [hDN]; exact (HDN.out j hj).1
        have HR1 : Hid (∀ s, s < c.nd → Sz 400 (RN s)) := by show ∀ _, _; rw [hRN]; exact (HDN.out k (Nat.le_refl _)).2
        have HS0 : Hid (SB 0 = 0) := by show _ = _; rw [hSB]; unfold sumN; rfl
        have HS1 : Hid (∀ j, SB (j + 1) = SB j + (1 - DN j) / rt) := fun j => by rw [hSB]; conv => lhs; unfold sumN
        have HP0 : Hid (PS 0 = 0) := by show _ = _; rw [hPS]; unfold sumN; rfl
        have HP1 : Hid (∀ j, PS (j + 1) = PS j + RN j * XT j) := fun j => by rw [hPS]; conv => lhs; unfold sumN
        have HTK3 : Hid (SB k + PS c.nd = XT sr ∧ 0 ≤ PS c.nd) := by
          have h1 := HTK2.out
          have h2 := HLF.out
          rw [← hDN, ← hXT, ← hSB] at h1
          have h3 : c.left rt k = PS c.nd := by rw [hPS, hRN, hXT]; rfl
          rw [h3] at h1 h2
          exact ⟨h1, h2⟩
        rw [← hDN] at F8
        rw [← hXT] at R8 HTS
        rw [← hRN] at V8
        have HDV : Hid (∀ j, j ≤ k → Sz 402 (1 - DN j) ∧ Sz 422 ((1 - DN j) / rt)) := fun j hj => by
          have h1 := (Sz.one (Nat.le_refl 1)).sub (HD1.out j hj)
          exact ⟨h1, h1.div HR20.out (by omega)⟩
        have HSS : Hid (∀ j, j ≤ k → Sz (1 + 500 * j) (SB j)) := fun j hj => by
          induction j with
          | zero => rw [HS0.out]; exact Sz.zero (by omega)
          | succ j ih => rw [HS1.out]; exact ((ih (by omega)).add (HDV.out j (by omega)).2).more (by omega)
        have HPP : Hid (∀ j, j ≤ c.nd → Sz (1 + 230000000 * j) (PS j)) := fun j hj => by
          induction j with
          | zero => rw [HP0.out]; exact Sz.zero (by omega)
          | succ j ih => rw [HP1.out]; exact ((ih (by omega)).add ((HR1.out j (by omega)).mul (HTS.out j) (by omega))).more (by omega)
        obtain ⟨M, hM⟩ : ∃ M, M = 2100000000 := ⟨_, rfl⟩
        have hM2 : 220000500 ≤ M ∧ M ≤ 10000000000 := by omega
        have HZ1 : Hid (∀ j, j ≤ k → Sz M (SB j)) := fun j hj => (HSS.out j hj).more (by omega)
        have HZ2 : Hid (∀ j, j ≤ c.nd → Sz M (SB k + PS j)) := fun j hj => ((HSS.out k (Nat.le_refl _)).add (HPP.out j hj)).more (by omega)
        clear hsr hDN hXT hRN hSB hPS hM hb57 hb58 hB7 hB8 hb6 hb7 hb8 hb6c0 hb6c1 hb7c0 hb7c1 hb8c0 hb8c1 hb6f0 hb6f1 hb7f0 hb7f1 hb8f0 hb8f1 HTK HTK2 HLF HDN HSS HPP a0 a1 a2 a3 j0 j1 j2 R7 F7 KS7 V7 R5 F5 KS5 KT KFi KEn KAf KCk HB5
        obtain ⟨bf, of, sf, Af, nf, cf, Bf, mf, df, rfl, hbf, -⟩ := F8.out.at_ (k := 0) (by omega)
        have w80 := fun o => Lib.cell?_alloc_some o i0
        clear sf Af nf cf Bf mf df
        go_wp2
        go_loopw [103] (fun i wr => ∃ j : Nat, j ≤ k ∧ i = .int .i64 (j : Int) ∧ VarR w8.heap.size (SB j) wr ∧ Below w8.heap.size w8 wr) (fun i _ => k - (intOf i).toNat)
        case atStart => exact ⟨0, Nat.zero_le _, rfl, by rw [HS0.out]; exact VarR.new w8, (Below.refl _ _).alloc (Nat.le_refl _) _⟩
        case round =>
          clear w80
          obtain ⟨j, hj, rfl, hv, hb⟩ := hrel
          have hzr := hb.size
          have hvz := hv.2.2.1
          have E0 := (hb.cell (p := ⟨o7, 0, none⟩) (by show o7 < _; omega)).trans j0'
          have E1 := (hb.cell (p := ⟨o7, 1, none⟩) (by show o7 < _; omega)).trans j1'
          have E2 := (hb.cell (p := ⟨o7, 2, none⟩) (by show o7 < _; omega)).trans j2'
          have C0 := (hb.cell (p := ⟨w.heap.size, 0, none⟩) (by show w.heap.size < _; omega)).trans i0
          have C1 := (hb.cell (p := ⟨w.heap.size, 1, none⟩) (by show w.heap.size < _; omega)).trans i1
          by_cases hlt : j < k
          · obtain ⟨bf', of', s1, A1, n1, c1, B1, m1, d1, ex, -, f0, f1, f2, r1⟩ := F8.out.at_ (k := j) (by omega)
            injection ex with ex
            injection ex with ex exo
            subst ex exo
            have g0 := (hb.cell (p := ⟨bf, of + j * 3, none⟩) hbf).trans f0
            have g1 := (hb.cell (p := ⟨bf, of + j * 3 + 1, none⟩) hbf).trans f1
            have g2 := (hb.cell (p := ⟨bf, of + j * 3 + 2, none⟩) hbf).trans f2
            have qp := ((r1.kp (Kp.of_below hb)).canQ (HD1.out j (by omega))).more (show 400 ≤ M by omega)
            have qr := ((KS8.out.kp (Kp.of_below hb)).canQ HR20.out).more (show 20 ≤ M by omega)
            obtain ⟨z1, z2⟩ := HDV.out j (by omega)
            have KSu := Lib.hid (fun W base v1 (hb : Below wr.heap.size wr W) (hv : OwQ W base v1 ((1 : Nat) : Rat)) => subQ (hv.rq (L := M) (Sz.one (by omega))) (qp.below hb) (by omega) (by omega))
            have KDi := Lib.hid (fun W base v1 (hb : Below wr.heap.size wr W) (hv : OwQ W base v1 (((1 : Nat) : Rat) - DN j)) => divQ (hv.rq (L := M) (z1.more (by omega))) (qr.below hb) (by omega) (by omega) (fun e => by have := HRP.out; rw [e] at this; exact absurd this (by decide)))
            have hji : (j : Int) < (k : Int) := by omega
            have hj0 : (0 : Int) ≤ (j : Int) := by omega
            have hbf2 : bf < wr.heap.size := by omega
            have ho8 : o7 < wr.heap.size := by omega
            have HV := Lib.hid hv
            have HB := Lib.hid hb
            have HZ := Lib.hid z2
            clear f0 f1 f2 r1 qp qr z1 z2 hv hb
            go_upto_region 17 with fail
            have hal : Below wr.heap.size wr (wr.alloc (.cells #[.bool s1, .slice A1 n1 c1, .slice B1 m1 d1] 50)) := (Below.refl _ _).alloc (Nat.le_refl _) _
            have hW1z : (wr.alloc (.cells #[.bool s1, .slice A1 n1 c1, .slice B1 m1 d1] 50)).heap.size = wr.heap.size + 1 := by simp
            have x0 : (wr.alloc (.cells #[.bool s1, .slice A1 n1 c1, .slice B1 m1 d1] 50)).cell? ⟨wr.heap.size, 0, none⟩ = some (.bool s1) := by simp
            have x1 : (wr.alloc (.cells #[.bool s1, .slice A1 n1 c1, .slice B1 m1 d1] 50)).cell? ⟨wr.heap.size, 1, none⟩ = some (.slice A1 n1 c1) := by simp
            have x2 : (wr.alloc (.cells #[.bool s1, .slice A1 n1 c1, .slice B1 m1 d1] 50)).cell? ⟨wr.heap.size, 2, none⟩ = some (.slice B1 m1 d1) := by simp
            generalize wr.alloc (.cells #[.bool s1, .slice A1 n1 c1, .slice B1 m1 d1] 50) = W1 at *
            have hlt1 : wr.heap.size < W1.heap.size := by omega
            have D0 := (hal.cell (p := ⟨o7, 0, none⟩) ho8).trans E0
            have D1 := (hal.cell (p := ⟨o7, 1, none⟩) ho8).trans E1
            have D2 := (hal.cell (p := ⟨o7, 2, none⟩) ho8).trans E2
            have KS2 : Hid (∀ W base v1, Below W1.heap.size W1 W → OwQ W base v1 ((1 : Nat) : Rat) → Calls Tryz.prog 34 #[v1, rv s1 A1 n1 c1 B1 m1 d1] W fun e w' => RetQ W.heap.size (((1 : Nat) : Rat) - DN j) e w' ∧ Below W.heap.size W w') := fun W base v1 hb hv => KSu.out W base v1 (hal.trans (hb.mono hal.size)) hv
            have KD2 : Hid (∀ W base v1, Below W1.heap.size W1 W → OwQ W base v1 (((1 : Nat) : Rat) - DN j) → Calls Tryz.prog 33 #[v1, rv s7 A7 n7 c7 B7 m7 d7] W fun e w' => RetDv W.heap.size ((((1 : Nat) : Rat) - DN j) / rt) .nilIface e w' ∧ Below W.heap.size W w') := fun W base v1 hb hv => KDi.out W base v1 (hal.trans (hb.mono hal.size)) hv
            have HAL := Lib.hid hal
            have ne1 : ¬ (wr.heap.size = W1.heap.size) := by omega
            have ne2 : ¬ (W1.heap.size = wr.heap.size) := by omega
            have ne3 : ¬ (o7 = W1.heap.size) := by omega
            have ne4 : ¬ (W1.heap.size = o7) := by omega
            have ho9 : o7 < W1.heap.size := by omega
            clear KSu KDi hal hW1z E0 E1 E2 g0 g1 g2
            go_cut [18, 19] from 107 to 114 (fun q e wx => e = .nilIface ∧ Res13 W1 W1.heap.size ((((1 : Nat) : Rat) - DN j) / rt) q wx)
            case first =>
              clear hp hb1z hw1 hn9 hk5 t1 t3 t5 e1 HST hb2z hb3z hz3 HS H0 HOK HRP HLE HR20 hlt0 ho1 ho2 hzc hwc hb4z hc11 hb5z hz5 ho5 hw5 hb6z hb6l0 hb6l1 hb7z hb7l0 hb7l1 t6 t7 t8 hb8z KS8 i0 j0' j1' j2' hz58 HB8 t9 t10 i1 hsn HTS R8 V8 HD1 HR1 HS0 HS1 HP0 HP1 HTK3 HDV hM2 HZ1 HZ2 F8 hbf hj hzr hvz C0 C1 hlt hji hj0 hbf2 HV HB HZ HAL
              go_region_held3 (fun W => W.cell? ⟨wr.heap.size, 0, none⟩ = some (.bool s1) ∧ W.cell? ⟨wr.heap.size, 1, none⟩ = some (.slice A1 n1 c1) ∧ W.cell? ⟨wr.heap.size, 2, none⟩ = some (.slice B1 m1 d1) ∧ W.cell? ⟨o7, 0, none⟩ = some (.bool s7) ∧ W.cell? ⟨o7, 1, none⟩ = some (.slice A7 n7 c7) ∧ W.cell? ⟨o7, 2, none⟩ = some (.slice B7 m7 d7)) (go_keep)
                (first | ((go_at_call 28; (with_reducible refine (K1.out _).mono ?_); rintro e wa ⟨⟨va, rfl, oa⟩, hba⟩; have hbaz := Below.size hba; (try simp only [ZA, ZS, ZD] at hbaz); have hbac0 := fun o => below_at hba (wr.heap.size) o (by first | omega | (simp only [ZA, ZS, ZD]; omega)); have hbaf0 := fun o => below_fr hba (wr.heap.size) o (by first | omega | (simp only [ZA, ZS, ZD]; omega)); have hbal0 : wr.heap.size < (wa).heap.size := (by omega); have hbac1 := fun o => below_at hba (o7) o (by first | omega | (simp only [ZA, ZS, ZD]; omega)); have hbaf1 := fun o => below_fr hba (o7) o (by first | omega | (simp only [ZA, ZS, ZD]; omega)); have hbal1 : o7 < (wa).heap.size := (by omega); have hbac2 := fun o => below_at hba (W1.heap.size) o (by first | omega | (simp only [ZA, ZS, ZD]; omega)); have hbaf2 := fun o => below_fr hba (W1.heap.size) o (by first | omega | (simp only [ZA, ZS, ZD]; omega)); have hbal2 : W1.heap.size < (wa).heap.size := (by omega))) | ((go_at_call 28; (with_reducible refine (K1.out _).mono ?_); rintro e wa ⟨⟨va, rfl, oa⟩, hba⟩; have hbaz := Below.size hba; (try simp only [ZA, ZS, ZD] at hbaz); have hbac0 := fun o => below_at hba (wr.heap.size) o (by first | omega | (simp only [ZA, ZS, ZD]; omega)); have hbaf0 := fun o => below_fr hba (wr.heap.size) o (by first | omega | (simp only [ZA, ZS, ZD]; omega)); have hbal0 : wr.heap.size < (wa).heap.size := (by omega); have hbac1 := fun o => below_at hba (o7) o (by first | omega | (simp only [ZA, ZS, ZD]; omega)); have hbaf1 := fun o => below_fr hba (o7) o (by first | omega | (simp only [ZA, ZS, ZD]; omega)); have hbal1 : o7 < (wa).heap.size := (by omega))) | ((go_at_call 34; (with_reducible refine (KS2.out _ _ _ (by have z0 := Below.size hba; (try simp only [ZA, ZS, ZD, ZN] at z0 ⊢; skip); repeat' (first | (with_reducible exact Below.refl _ _) | (with_reducible assumption) | (with_reducible refine Below.alloc ?_ ?_ _) | (with_reducible refine Below.drew ?_) | (with_reducible refine below_drewN ?_ _) | (with_reducible refine Below.setCell ?_ ?_ _) | (with_reducible refine Below.trans ?_ (Below.mono (by with_reducible assumption) ?_)) | omega | (simp only [ZA, ZS, ZD, ZN]; omega) | go_size)) oa).mono ?_); rintro e wb ⟨⟨vb, rfl, ob⟩, hbb⟩; have hbbz := Below.size hbb; (try simp only [ZA, ZS, ZD] at hbbz); have hbbc0 := fun o => below_at hbb (wr.heap.size) o (by first | omega | (simp only [ZA, ZS, ZD]; omega)); have hbbf0 := fun o => below_fr hbb (wr.heap.size) o (by first | omega | (simp only [ZA, ZS, ZD]; omega)); have hbbl0 : wr.heap.size < (wb).heap.size := (by omega); have hbbc1 := fun o => below_at hbb (o7) o (by first | omega | (simp only [ZA, ZS, ZD]; omega)); have hbbf1 := fun o => below_fr hbb (o7) o (by first | omega | (simp only [ZA, ZS, ZD]; omega)); have hbbl1 : o7 < (wb).heap.size := (by omega); have hbbc2 := fun o => below_at hbb (W1.heap.size) o (by first | omega | (simp only [ZA, ZS, ZD]; omega)); have hbbf2 := fun o => below_fr hbb (W1.heap.size) o (by first | omega | (simp only [ZA, ZS, ZD]; omega)); have hbbl2 : W1.heap.size < (wb).heap.size := (by omega))) | ((go_at_call 34; (with_reducible refine (KS2.out _ _ _ (by have z0 := Below.size hba; (try simp only [ZA, ZS, ZD, ZN] at z0 ⊢; skip); repeat' (first | (with_reducible exact Below.refl _ _) | (with_reducible assumption) | (with_reducible refine Below.alloc ?_ ?_ _) | (with_reducible refine Below.drew ?_) | (with_reducible refine below_drewN ?_ _) | (with_reducible refine Below.setCell ?_ ?_ _) | (with_reducible refine Below.trans ?_ (Below.mono (by with_reducible assumption) ?_)) | omega | (simp only [ZA, ZS, ZD, ZN]; omega) | go_size)) oa).mono ?_); rintro e wb ⟨⟨vb, rfl, ob⟩, hbb⟩; have hbbz := Below.size hbb; (try simp only [ZA, ZS, ZD] at hbbz); have hbbc0 := fun o => below_at hbb (wr.heap.size) o (by first | omega | (simp only [ZA, ZS, ZD]; omega)); have hbbf0 := fun o => below_fr hbb (wr.heap.size) o (by first | omega | (simp only [ZA, ZS, ZD]; omega)); have hbbl0 : wr.heap.size < (wb).heap.size := (by omega); have hbbc1 := fun o => below_at hbb (o7) o (by first | omega | (simp only [ZA, ZS, ZD]; omega)); have hbbf1 := fun o => below_fr hbb (o7) o (by first | omega | (simp only [ZA, ZS, ZD]; omega)); have hbbl1 : o7 < (wb).heap.size := (by omega))) | ((go_at_call 34; (with_reducible refine (KS2.out _ _ _ (by have z0 := Below.size hba; (try simp only [ZA, ZS, ZD, ZN] at z0 ⊢; skip); repeat' (first | (with_reducible exact Below.refl _ _) | (with_reducible assumption) | (with_reducible refine Below.alloc ?_ ?_ _) | (with_reducible refine Below.drew ?_) | (with_reducible refine below_drewN ?_ _) | (with_reducible refine Below.setCell ?_ ?_ _) | (with_reducible refine Below.trans ?_ (Below.mono (by with_reducible assumption) ?_)) | omega | (simp only [ZA, ZS, ZD, ZN]; omega) | go_size)) (oa.alloc _)).mono ?_); rintro e wb ⟨⟨vb, rfl, ob⟩, hbb⟩; have hbbz := Below.size hbb; (try simp only [ZA, ZS, ZD] at hbbz); have hbbc0 := fun o => below_at hbb (wr.heap.size) o (by first | omega | (simp only [ZA, ZS, ZD]; omega)); have hbbf0 := fun o => below_fr hbb (wr.heap.size) o (by first | omega | (simp only [ZA, ZS, ZD]; omega)); have hbbl0 : wr.heap.size < (wb).heap.size := (by omega); have hbbc1 := fun o => below_at hbb (o7) o (by first | omega | (simp only [ZA, ZS, ZD]; omega)); have hbbf1 := fun o => below_fr hbb (o7) o (by first | omega | (simp only [ZA, ZS, ZD]; omega)); have hbbl1 : o7 < (wb).heap.size := (by omega); have hbbc2 := fun o => below_at hbb (wa.heap.size) o (by first | omega | (simp only [ZA, ZS, ZD]; omega)); have hbbf2 := fun o => below_fr hbb (wa.heap.size) o (by first | omega | (simp only [ZA, ZS, ZD]; omega)); have hbbl2 : wa.heap.size < (wb).heap.size := (by omega)); have ne5 : ¬ (wa.heap.size = wr.heap.size) := (by omega); have ne6 : ¬ (wr.heap.size = wa.heap.size) := (by omega); have ne7 : ¬ (wa.heap.size = o7) := (by omega); have ne8 : ¬ (o7 = wa.heap.size) := (by omega)) | ((go_at_call 33; (with_reducible refine (KD2.out _ _ _ (by have z0 := Below.size hba; have z1 := Below.size hbb; (try simp only [ZA, ZS, ZD, ZN] at z0 z1 ⊢; skip); repeat' (first | (with_reducible exact Below.refl _ _) | (with_reducible assumption) | (with_reducible refine Below.alloc ?_ ?_ _) | (with_reducible refine Below.drew ?_) | (with_reducible refine below_drewN ?_ _) | (with_reducible refine Below.setCell ?_ ?_ _) | (with_reducible refine Below.trans ?_ (Below.mono (by with_reducible assumption) ?_)) | omega | (simp only [ZA, ZS, ZD, ZN]; omega) | go_size)) ob).mono ?_); rintro e wd ⟨⟨vd, rfl, od⟩, hbd⟩; have hbdz := Below.size hbd; (try simp only [ZA, ZS, ZD] at hbdz); have hbdc0 := fun o => below_at hbd (wr.heap.size) o (by first | omega | (simp only [ZA, ZS, ZD]; omega)); have hbdf0 := fun o => below_fr hbd (wr.heap.size) o (by first | omega | (simp only [ZA, ZS, ZD]; omega)); have hbdl0 : wr.heap.size < (wd).heap.size := (by omega); have hbdc1 := fun o => below_at hbd (o7) o (by first | omega | (simp only [ZA, ZS, ZD]; omega)); have hbdf1 := fun o => below_fr hbd (o7) o (by first | omega | (simp only [ZA, ZS, ZD]; omega)); have hbdl1 : o7 < (wd).heap.size := (by omega); have hbdc2 := fun o => below_at hbd (wa.heap.size) o (by first | omega | (simp only [ZA, ZS, ZD]; omega)); have hbdf2 := fun o => below_fr hbd (wa.heap.size) o (by first | omega | (simp only [ZA, ZS, ZD]; omega)); have hbdl2 : wa.heap.size < (wd).heap.size := (by omega)); obtain ⟨s9, A9', n9, c9', B9, m9, d9, rfl⟩ := od.form) | ((go_at_call 33; (with_reducible refine (KD2.out _ _ _ (by have z0 := Below.size hba; have z1 := Below.size hbb; (try simp only [ZA, ZS, ZD, ZN] at z0 z1 ⊢; skip); repeat' (first | (with_reducible exact Below.refl _ _) | (with_reducible assumption) | (with_reducible refine Below.alloc ?_ ?_ _) | (with_reducible refine Below.drew ?_) | (with_reducible refine below_drewN ?_ _) | (with_reducible refine Below.setCell ?_ ?_ _) | (with_reducible refine Below.trans ?_ (Below.mono (by with_reducible assumption) ?_)) | omega | (simp only [ZA, ZS, ZD, ZN]; omega) | go_size)) ob).mono ?_); rintro e wd ⟨⟨vd, rfl, od⟩, hbd⟩; have hbdz := Below.size hbd; (try simp only [ZA, ZS, ZD] at hbdz); have hbdc0 := fun o => below_at hbd (wr.heap.size) o (by first | omega | (simp only [ZA, ZS, ZD]; omega)); have hbdf0 := fun o => below_fr hbd (wr.heap.size) o (by first | omega | (simp only [ZA, ZS, ZD]; omega)); have hbdl0 : wr.heap.size < (wd).heap.size := (by omega); have hbdc1 := fun o => below_at hbd (o7) o (by first | omega | (simp only [ZA, ZS, ZD]; omega)); have hbdf1 := fun o => below_fr hbd (o7) o (by first | omega | (simp only [ZA, ZS, ZD]; omega)); have hbdl1 : o7 < (wd).heap.size := (by omega); have hbdc2 := fun o => below_at hbd (W1.heap.size) o (by first | omega | (simp only [ZA, ZS, ZD]; omega)); have hbdf2 := fun o => below_fr hbd (W1.heap.size) o (by first | omega | (simp only [ZA, ZS, ZD]; omega)); have hbdl2 : W1.heap.size < (wd).heap.size := (by omega)); obtain ⟨s9, A9', n9, c9', B9, m9, d9, rfl⟩ := od.form) | ((go_at_call 33; (with_reducible refine (KD2.out _ _ _ (by have z0 := Below.size hba; have z1 := Below.size hbb; (try simp only [ZA, ZS, ZD, ZN] at z0 z1 ⊢; skip); repeat' (first | (with_reducible exact Below.refl _ _) | (with_reducible assumption) | (with_reducible refine Below.alloc ?_ ?_ _) | (with_reducible refine Below.drew ?_) | (with_reducible refine below_drewN ?_ _) | (with_reducible refine Below.setCell ?_ ?_ _) | (with_reducible refine Below.trans ?_ (Below.mono (by with_reducible assumption) ?_)) | omega | (simp only [ZA, ZS, ZD, ZN]; omega) | go_size)) ob).mono ?_); rintro e wd ⟨⟨vd, rfl, od⟩, hbd⟩; have hbdz := Below.size hbd; (try simp only [ZA, ZS, ZD] at hbdz); have hbdc0 := fun o => below_at hbd (wr.heap.size) o (by first | omega | (simp only [ZA, ZS, ZD]; omega)); have hbdf0 := fun o => below_fr hbd (wr.heap.size) o (by first | omega | (simp only [ZA, ZS, ZD]; omega)); have hbdl0 : wr.heap.size < (wd).heap.size := (by omega); have hbdc1 := fun o => below_at hbd (o7) o (by first | omega | (simp only [ZA, ZS, ZD]; omega)); have hbdf1 := fun o => below_fr hbd (o7) o (by first | omega | (simp only [ZA, ZS, ZD]; omega)); have hbdl1 : o7 < (wd).heap.size := (by omega)); obtain ⟨s9, A9', n9, c9', B9, m9, d9, rfl⟩ := od.form) | ((go_at_call 33; (with_reducible refine (KD2.out _ _ _ (by have z0 := Below.size hba; have z1 := Below.size hbb; (try simp only [ZA, ZS, ZD, ZN] at z0 z1 ⊢; skip); repeat' (first | (with_reducible exact Below.refl _ _) | (with_reducible assumption) | (with_reducible refine Below.alloc ?_ ?_ _) | (with_reducible refine Below.drew ?_) | (with_reducible refine below_drewN ?_ _) | (with_reducible refine Below.setCell ?_ ?_ _) | (with_reducible refine Below.trans ?_ (Below.mono (by with_reducible assumption) ?_)) | omega | (simp only [ZA, ZS, ZD, ZN]; omega) | go_size)) (ob.alloc _)).mono ?_); rintro e wd ⟨⟨vd, rfl, od⟩, hbd⟩; have hbdz := Below.size hbd; (try simp only [ZA, ZS, ZD] at hbdz); have hbdc0 := fun o => below_at hbd (wr.heap.size) o (by first | omega | (simp only [ZA, ZS, ZD]; omega)); have hbdf0 := fun o => below_fr hbd (wr.heap.size) o (by first | omega | (simp only [ZA, ZS, ZD]; omega)); have hbdl0 : wr.heap.size < (wd).heap.size := (by omega); have hbdc1 := fun o => below_at hbd (o7) o (by first | omega | (simp only [ZA, ZS, ZD]; omega)); have hbdf1 := fun o => below_fr hbd (o7) o (by first | omega | (simp only [ZA, ZS, ZD]; omega)); have hbdl1 : o7 < (wd).heap.size := (by omega); have hbdc2 := fun o => below_at hbd (wb.heap.size) o (by first | omega | (simp only [ZA, ZS, ZD]; omega)); have hbdf2 := fun o => below_fr hbd (wb.heap.size) o (by first | omega | (simp only [ZA, ZS, ZD]; omega)); have hbdl2 : wb.heap.size < (wd).heap.size := (by omega)); obtain ⟨s9, A9', n9, c9', B9, m9, d9, rfl⟩ := od.form; have ne5 : ¬ (wb.heap.size = wr.heap.size) := (by omega); have ne6 : ¬ (wr.heap.size = wb.heap.size) := (by omega); have ne7 : ¬ (wb.heap.size = o7) := (by omega); have ne8 : ¬ (o7 = wb.heap.size) := (by omega)) | fail)
              · go_wp2
                go_meet
                exact ⟨rfl, res13_new od (by have z0 := Below.size hba; have z1 := Below.size hbb; have z2 := Below.size hbd; (try simp only [ZA, ZS, ZD, ZN] at z0 z1 z2 ⊢; skip); repeat' (first | (with_reducible exact Below.refl _ _) | (with_reducible assumption) | (with_reducible refine Below.alloc ?_ ?_ _) | (with_reducible refine Below.drew ?_) | (with_reducible refine below_drewN ?_ _) | (with_reducible refine Below.setCell ?_ ?_ _) | (with_reducible refine Below.trans ?_ (Below.mono (by with_reducible assumption) ?_)) | omega | (simp only [ZA, ZS, ZD, ZN]; omega) | go_size)) (by omega)⟩
              · go_wp2
                go_meet
                exact ⟨rfl, res13_set (a' := .bool false) (b' := .slice none 0 0) (d' := .slice none 0 0) od (by have z0 := Below.size hba; have z1 := Below.size hbb; have z2 := Below.size hbd; (try simp only [ZA, ZS, ZD, ZN] at z0 z1 z2 ⊢; skip); repeat' (first | (with_reducible exact Below.refl _ _) | (with_reducible assumption) | (with_reducible refine Below.alloc ?_ ?_ _) | (with_reducible refine Below.drew ?_) | (with_reducible refine below_drewN ?_ _) | (with_reducible refine Below.setCell ?_ ?_ _) | (with_reducible refine Below.trans ?_ (Below.mono (by with_reducible assumption) ?_)) | omega | (simp only [ZA, ZS, ZD, ZN]; omega) | go_size)) (by omega) (by omega) ((RatB.new wb _).below hbd (by simp)) (by rw [hbdc2]; simp) (by rw [hbdc2]; simp) (by rw [hbdc2]; simp)⟩
              · go_wp2
                go_meet
                have hRb : RatB wb wa.heap.size := (RatB.new wa _).below hbb (by simp)
                exact ⟨rfl, res13_set (a' := .bool false) (b' := .slice none 0 0) (d' := .slice none 0 0) od (by have z0 := Below.size hba; have z1 := Below.size hbb; have z2 := Below.size hbd; (try simp only [ZA, ZS, ZD, ZN] at z0 z1 z2 ⊢; skip); repeat' (first | (with_reducible exact Below.refl _ _) | (with_reducible assumption) | (with_reducible refine Below.alloc ?_ ?_ _) | (with_reducible refine Below.drew ?_) | (with_reducible refine below_drewN ?_ _) | (with_reducible refine Below.setCell ?_ ?_ _) | (with_reducible refine Below.trans ?_ (Below.mono (by with_reducible assumption) ?_)) | omega | (simp only [ZA, ZS, ZD, ZN]; omega) | go_size)) (by omega) (by omega) (hRb.below hbd (by omega)) (by rw [hbdc2, hbbc2]; simp) (by rw [hbdc2, hbbc2]; simp) (by rw [hbdc2, hbbc2]; simp)⟩
              · go_wp2
                go_meet
                have hRa : RatB wa W1.heap.size := by
                  have h := RatB.new W1.drew #[.bool false, .slice none 0 0, .slice none 0 0]
                  exact RatB.below (w := (W1.drew.alloc (.cells #[.bool false, .slice none 0 0, .slice none 0 0] 50))) h hba (by simp)
                have hRb : RatB wb W1.heap.size := hRa.below hbb (by omega)
                exact ⟨rfl, res13_set (a' := .bool false) (b' := .slice none 0 0) (d' := .slice none 0 0) od (by have z0 := Below.size hba; have z1 := Below.size hbb; have z2 := Below.size hbd; (try simp only [ZA, ZS, ZD, ZN] at z0 z1 z2 ⊢; skip); repeat' (first | (with_reducible exact Below.refl _ _) | (with_reducible assumption) | (with_reducible refine Below.alloc ?_ ?_ _) | (with_reducible refine Below.drew ?_) | (with_reducible refine below_drewN ?_ _) | (with_reducible refine Below.setCell ?_ ?_ _) | (with_reducible refine Below.trans ?_ (Below.mono (by with_reducible assumption) ?_)) | omega | (simp only [ZA, ZS, ZD, ZN]; omega) | go_size)) (by omega) (by omega) (hRb.below hbd (by omega)) (by rw [hbdc2, hbbc2, hbac2]; simp) (by rw [hbdc2, hbbc2, hbac2]; simp) (by rw [hbdc2, hbbc2, hbac2]; simp)⟩
            case rest =>
              obtain ⟨rfl, o18, s9, A18, n9, c18, B9, m9, d9, rfl, ho18, ho19, k0, k1, k2, kS, hbc⟩ := hcut
              have hzc1 := hbc.size
              have hbr : Below wr.heap.size wr wc := HAL.out.trans (hbc.mono (by omega))
              have hv := HV.out.below hbr
              have HVc := Lib.hid hv
              obtain ⟨⟨s15, A15, n15, c15, B15, m15, d15, v0, v1, v2, r15⟩, -, hgz, hgf⟩ := hv
              have q15 := r15.canQ (HZ1.out j (by omega))
              have q18 := kS.canQ (HZ.out.more (show 422 ≤ M by omega))
              have KA := Lib.hid (fun W (hb : Below wc.heap.size wc W) => addQ (q15.below hb) (q18.below hb) (by omega) (by omega))
              have HBR := Lib.hid hbr
              clear r15 q15 q18 kS hbc hbr KS2 KD2 x0 x1 x2 D0 D1 D2
              (go_wp2_with fail; (with_reducible refine (KA.out _ (Below.refl _ _)).mono ?_); rintro e wz ⟨⟨v20, rfl, own20⟩, hbz⟩; have hbzz := Below.size hbz; (try simp only [ZA, ZS, ZD, ZN] at hbzz); have hbzc0 := fun o => below_at hbz (w8.heap.size) o (by first | omega | (simp only [ZA, ZS, ZD, ZN]; omega)); have hbzf0 := fun o => below_fr hbz (w8.heap.size) o (by first | omega | (simp only [ZA, ZS, ZD, ZN]; omega)))
              obtain ⟨s20, A20, n20, c20, B20, m20, d20, rfl⟩ := own20.form
              have p1 := (HVc.out.below hbz).put (own20.rs (b0 := 0))
              have e20 : SB j + (((1 : Nat) : Rat) - DN j) / rt = SB (j + 1) := (HS1.out j).symm
              rw [e20] at p1
              have nb := below_set3 (HB.out.trans ((HBR.out.trans (hbz.mono HBR.out.size)).mono hzr)) (Nat.le_refl _) (.bool s20) (.slice A20 n20 c20) (.slice B20 m20 d20)
              have HP := Lib.hid p1
              have HNB := Lib.hid nb
              clear p1 nb own20 e20
              go_wp2
              go_roundw
              case rel => exact ⟨j + 1, by omega, by go_num, HP.out, HNB.out⟩
              case measure => simp [intOf]; omega
          · have hjk : j = k := by omega
            subst hjk
            obtain ⟨bt, ot, sT, AT, nT, cT, BT, mT, dT, rfl, hbt, p0, p1, p2, rT⟩ := R8.out.at_ hsn
            have hbt2 : bt < w8.heap.size := hbt
            have P0 := (hb.cell (lt_of_cell p0)).trans p0
            have P1 := (hb.cell (lt_of_cell p1)).trans p1
            have P2 := (hb.cell (lt_of_cell p2)).trans p2
            have qT := ((rT.kp (Kp.of_below hb)).canQ (HTS.out sr)).more (show 220000001 ≤ M by omega)
            have HVr := Lib.hid hv
            obtain ⟨⟨s15, A15, n15, c15, B15, m15, d15, v0, v1, v2, r15⟩, -, hgz, hgf⟩ := hv
            have q15 := r15.canQ (HZ1.out j (Nat.le_refl _))
            have KCm := Lib.hid (fun W (hb : Below wr.heap.size wr W) => cmpQ (q15.below hb) (qT.below hb) (by omega) (by omega))
            obtain ⟨z, hz, ez⟩ := sgn_le0 (q := SB j - XT sr) (by have h1 := HTK3.out.1; have h2 := HTK3.out.2; grind)
            rw [hz] at KCm
            have hsi : (sr : Int) < (c.nd : Int) := by omega
            have hs0 : (0 : Int) ≤ (sr : Int) := by omega
            have hg8 : w8.heap.size < wr.heap.size := hgz
            have HB := Lib.hid hb
            have HRT := Lib.hid rT
            clear p0 p1 p2 qT q15 r15 hz hb rT
            go_wp2
            go_region_held3 (fun W => W.cell? ⟨w.heap.size, 1, none⟩ = some (.int .i64 (sr : Int)) ∧ W.cell? ⟨bt, ot + sr * 3, none⟩ = some (.bool sT) ∧ W.cell? ⟨bt, ot + sr * 3 + 1, none⟩ = some (.slice AT nT cT) ∧ W.cell? ⟨bt, ot + sr * 3 + 2, none⟩ = some (.slice BT mT dT) ∧ W.cell? ⟨w8.heap.size, 0, none⟩ = some (.bool s15) ∧ W.cell? ⟨w8.heap.size, 1, none⟩ = some (.slice A15 n15 c15) ∧ W.cell? ⟨w8.heap.size, 2, none⟩ = some (.slice B15 m15 d15)) (go_keep)
              (first | ((go_at_call 35; (with_reducible refine (KCm.out _ (by (skip); repeat' (first | (with_reducible exact Below.refl _ _) | (with_reducible assumption) | (with_reducible refine Below.alloc ?_ ?_ _) | (with_reducible refine Below.drew ?_) | (with_reducible refine below_drewN ?_ _) | (with_reducible refine Below.setCell ?_ ?_ _) | (with_reducible refine Below.trans ?_ (Below.mono (by with_reducible assumption) ?_)) | omega | (simp only [ZA, ZS, ZD, ZN]; omega) | go_size))).mono ?_); rintro e wa ⟨rfl, hba⟩; have hbaz := Below.size hba; (try simp only [ZA, ZS, ZD] at hbaz); have hbac0 := fun o => below_at hba (w.heap.size) o (by first | omega | (simp only [ZA, ZS, ZD]; omega)); have hbaf0 := fun o => below_fr hba (w.heap.size) o (by first | omega | (simp only [ZA, ZS, ZD]; omega)); have hbal0 : w.heap.size < (wa).heap.size := (by omega); have hbac1 := fun o => below_at hba (bt) o (by first | omega | (simp only [ZA, ZS, ZD]; omega)); have hbaf1 := fun o => below_fr hba (bt) o (by first | omega | (simp only [ZA, ZS, ZD]; omega)); have hbal1 : bt < (wa).heap.size := (by omega); have hbac2 := fun o => below_at hba (w8.heap.size) o (by first | omega | (simp only [ZA, ZS, ZD]; omega)); have hbaf2 := fun o => below_fr hba (w8.heap.size) o (by first | omega | (simp only [ZA, ZS, ZD]; omega)); have hbal2 : w8.heap.size < (wa).heap.size := (by omega))) | fail)
            all_goals
              have hbra : Below wr.heap.size wr wa := (by have z0 := Below.size hba; (try simp only [ZA, ZS, ZD, ZN] at z0 ⊢; skip); repeat' (first | (with_reducible exact Below.refl _ _) | (with_reducible assumption) | (with_reducible refine Below.alloc ?_ ?_ _) | (with_reducible refine Below.drew ?_) | (with_reducible refine below_drewN ?_ _) | (with_reducible refine Below.setCell ?_ ?_ _) | (with_reducible refine Below.trans ?_ (Below.mono (by with_reducible assumption) ?_)) | omega | (simp only [ZA, ZS, ZD, ZN]; omega) | go_size))
              have HVa := Lib.hid (HVr.out.below hbra)
              have HBa := Lib.hid (HB.out.trans (hbra.mono hzr))
              have hza := hbra.size
              clear hbra hba hbac0 hbac1 hbac2 hbaf0 hbaf1 hbaf2 HVr HB v0 v1 v2 hgf C0 C1 E0 E1 E2 P0 P1 P2 KCm
              go_wp2
              go_loopw [131] (fun i wr => ∃ s : Nat, s ≤ c.nd ∧ i = .int .i64 (s : Int) ∧ VarR w8.heap.size (SB j + PS s) wr ∧ Below w8.heap.size w8 wr) (fun i _ => c.nd - (intOf i).toNat)
              case atStart => exact ⟨0, Nat.zero_le _, rfl, by rw [HP0.out, Rat.add_zero]; exact HVa.out, HBa.out⟩
              case round =>
                obtain ⟨s, hs, rfl, hv, hb⟩ := hrel
                have hzr2 := hb.size
                have hg9 : w8.heap.size < wr.heap.size := hv.2.2.1
                by_cases hlt : s < c.nd
                · obtain ⟨bv, ov, sv, Av, nv', cv', Bv, mv', dv, ex, hbv, f0, f1, f2, r1⟩ := V8.out.at_ hlt
                  subst ex
                  obtain ⟨bt', ot', s2, A2, n2, c2, B2, m2, d2, ex, -, p0, p1, p2, r2⟩ := R8.out.at_ hlt
                  injection ex with ex
                  injection ex with ex exo
                  subst ex exo
                  have F0 := (hb.cell (lt_of_cell f0)).trans f0
                  have F1 := (hb.cell (lt_of_cell f1)).trans f1
                  have F2 := (hb.cell (lt_of_cell f2)).trans f2
                  have G0 := (hb.cell (lt_of_cell p0)).trans p0
                  have G1 := (hb.cell (lt_of_cell p1)).trans p1
                  have G2 := (hb.cell (lt_of_cell p2)).trans p2
                  have qv := ((r1.kp (Kp.of_below hb)).canQ (HR1.out s hlt)).more (show 400 ≤ M by omega)
                  have qt := ((r2.kp (Kp.of_below hb)).canQ (HTS.out s)).more (show 220000001 ≤ M by omega)
                  have hprod : Sz M (RN s * XT s) := ((HR1.out s hlt).mul (HTS.out s) (by omega)).more (by omega)
                  have KMu := Lib.hid (fun W (hb : Below wr.heap.size wr W) => mulQ (qv.below hb) (qt.below hb) (by omega) (by omega))
                  have HVr := Lib.hid hv
                  obtain ⟨⟨s15, A15, n15, c15, B15, m15, d15, v0, v1, v2, r15⟩, -, hgz, hgf⟩ := hv
                  have q15 := r15.canQ (HZ2.out s (by omega))
                  have KAd := Lib.hid (fun W base u (hb : Below wr.heap.size wr W) (hu : OwQ W base u (RN s * XT s)) => addQ (q15.below hb) (hu.rq hprod) (by omega) (by omega))
                  have hsi2 : (s : Int) < (c.nd : Int) := by omega
                  have hs02 : (0 : Int) ≤ (s : Int) := by omega
                  have hbv2 : bv < wr.heap.size := by omega
                  have hbt3 : bt < wr.heap.size := by omega
                  have HB := Lib.hid hb
                  clear f0 f1 f2 p0 p1 p2 r1 r2 qv qt q15 r15 hb
                  go_wp2
                  have hal : Below wr.heap.size wr (wr.alloc (.cells #[.bool sv, .slice Av nv' cv', .slice Bv mv' dv] 50)) := (Below.refl _ _).alloc (Nat.le_refl _) _
                  have hW1z : (wr.alloc (.cells #[.bool sv, .slice Av nv' cv', .slice Bv mv' dv] 50)).heap.size = wr.heap.size + 1 := by simp
                  have x0 : (wr.alloc (.cells #[.bool sv, .slice Av nv' cv', .slice Bv mv' dv] 50)).cell? ⟨wr.heap.size, 0, none⟩ = some (.bool sv) := by simp
                  have x1 : (wr.alloc (.cells #[.bool sv, .slice Av nv' cv', .slice Bv mv' dv] 50)).cell? ⟨wr.heap.size, 1, none⟩ = some (.slice Av nv' cv') := by simp
                  have x2 : (wr.alloc (.cells #[.bool sv, .slice Av nv' cv', .slice Bv mv' dv] 50)).cell? ⟨wr.heap.size, 2, none⟩ = some (.slice Bv mv' dv) := by simp
                  generalize wr.alloc (.cells #[.bool sv, .slice Av nv' cv', .slice Bv mv' dv] 50) = W1 at *
                  have hlt1 : wr.heap.size < W1.heap.size := by omega
                  have D0 := (hal.cell (p := ⟨bt, ot + s * 3, none⟩) hbt3).trans G0
                  have D1 := (hal.cell (p := ⟨bt, ot + s * 3 + 1, none⟩) hbt3).trans G1
                  have D2 := (hal.cell (p := ⟨bt, ot + s * 3 + 2, none⟩) hbt3).trans G2
                  have o0 := (hal.cell (p := ⟨w8.heap.size, 0, none⟩) hg9).trans v0
                  have o1 := (hal.cell (p := ⟨w8.heap.size, 1, none⟩) hg9).trans v1
                  have o2 := (hal.cell (p := ⟨w8.heap.size, 2, none⟩) hg9).trans v2
                  have of' : ∀ i, W1.frozen? ⟨w8.heap.size, i, none⟩ = false := fun i => (hal.frozen (p := ⟨w8.heap.size, i, none⟩) hg9).trans (hgf i)
                  have KM2 := Lib.hid (fun W (hb : Below W1.heap.size W1 W) => KMu.out W (hal.trans (hb.mono hal.size)))
                  have KA2 := Lib.hid (fun W base u (hb : Below W1.heap.size W1 W) (hu : OwQ W base u (RN s * XT s)) => KAd.out W base u (hal.trans (hb.mono hal.size)) hu)
                  have HAL := Lib.hid hal
                  have ne1 : ¬ (wr.heap.size = w8.heap.size) := by omega
                  have ne2 : ¬ (w8.heap.size = wr.heap.size) := by omega
                  have ne3 : ¬ (bt = w8.heap.size) := by omega
                  have ne4 : ¬ (w8.heap.size = bt) := by omega
                  clear hal KMu KAd hW1z v0 v1 v2 hgf F0 F1 F2 G0 G1 G2
                  rw [ld_later 50 (.tmp 15)]
                  go_region_held3 (fun W => W.cell? ⟨wr.heap.size, 0, none⟩ = some (.bool sv) ∧ W.cell? ⟨wr.heap.size, 1, none⟩ = some (.slice Av nv' cv') ∧ W.cell? ⟨wr.heap.size, 2, none⟩ = some (.slice Bv mv' dv) ∧ W.cell? ⟨bt, ot + s * 3, none⟩ = some (.bool s2) ∧ W.cell? ⟨bt, ot + s * 3 + 1, none⟩ = some (.slice A2 n2 c2) ∧ W.cell? ⟨bt, ot + s * 3 + 2, none⟩ = some (.slice B2 m2 d2)) (go_keep)
                    (first | ((go_at_call 36; (with_reducible refine (KM2.out _ (by (skip); repeat' (first | (with_reducible exact Below.refl _ _) | (with_reducible assumption) | (with_reducible refine Below.alloc ?_ ?_ _) | (with_reducible refine Below.drew ?_) | (with_reducible refine below_drewN ?_ _) | (with_reducible refine Below.setCell ?_ ?_ _) | (with_reducible refine Below.trans ?_ (Below.mono (by with_reducible assumption) ?_)) | omega | (simp only [ZA, ZS, ZD, ZN]; omega) | go_size))).mono ?_); rintro e wb ⟨⟨vb, rfl, ob⟩, hbb⟩; have hbbz := Below.size hbb; (try simp only [ZA, ZS, ZD] at hbbz); have hbbc0 := fun o => below_at hbb (w8.heap.size) o (by first | omega | (simp only [ZA, ZS, ZD]; omega)); have hbbf0 := fun o => below_fr hbb (w8.heap.size) o (by first | omega | (simp only [ZA, ZS, ZD]; omega)); have hbbl0 : w8.heap.size < (wb).heap.size := (by omega); have hbbc1 := fun o => below_at hbb (wr.heap.size) o (by first | omega | (simp only [ZA, ZS, ZD]; omega)); have hbbf1 := fun o => below_fr hbb (wr.heap.size) o (by first | omega | (simp only [ZA, ZS, ZD]; omega)); have hbbl1 : wr.heap.size < (wb).heap.size := (by omega); have hbbc2 := fun o => below_at hbb (bt) o (by first | omega | (simp only [ZA, ZS, ZD]; omega)); have hbbf2 := fun o => below_fr hbb (bt) o (by first | omega | (simp only [ZA, ZS, ZD]; omega)); have hbbl2 : bt < (wb).heap.size := (by omega))) | ((go_at_call 27; (with_reducible refine (KA2.out _ _ _ (by have z0 := Below.size hbb; (try simp only [ZA, ZS, ZD, ZN] at z0 ⊢; skip); repeat' (first | (with_reducible exact Below.refl _ _) | (with_reducible assumption) | (with_reducible refine Below.alloc ?_ ?_ _) | (with_reducible refine Below.drew ?_) | (with_reducible refine below_drewN ?_ _) | (with_reducible refine Below.setCell ?_ ?_ _) | (with_reducible refine Below.trans ?_ (Below.mono (by with_reducible assumption) ?_)) | omega | (simp only [ZA, ZS, ZD, ZN]; omega) | go_size)) ob).mono ?_); rintro e wd ⟨⟨vd, rfl, od⟩, hbd⟩; have hbdz := Below.size hbd; (try simp only [ZA, ZS, ZD] at hbdz); have hbdc0 := fun o => below_at hbd (w8.heap.size) o (by first | omega | (simp only [ZA, ZS, ZD]; omega)); have hbdf0 := fun o => below_fr hbd (w8.heap.size) o (by first | omega | (simp only [ZA, ZS, ZD]; omega)); have hbdl0 : w8.heap.size < (wd).heap.size := (by omega); have hbdc1 := fun o => below_at hbd (wr.heap.size) o (by first | omega | (simp only [ZA, ZS, ZD]; omega)); have hbdf1 := fun o => below_fr hbd (wr.heap.size) o (by first | omega | (simp only [ZA, ZS, ZD]; omega)); have hbdl1 : wr.heap.size < (wd).heap.size := (by omega); have hbdc2 := fun o => below_at hbd (bt) o (by first | omega | (simp only [ZA, ZS, ZD]; omega)); have hbdf2 := fun o => below_fr hbd (bt) o (by first | omega | (simp only [ZA, ZS, ZD]; omega)); have hbdl2 : bt < (wd).heap.size := (by omega)); obtain ⟨s9, A9', n9, c9', B9, m9, d9, rfl⟩ := od.form) | fail)
                  all_goals
                    have hb9 : Below W1.heap.size W1 wd := (by have z0 := Below.size hbb; have z1 := Below.size hbd; (try simp only [ZA, ZS, ZD, ZN] at z0 z1 ⊢; skip); repeat' (first | (with_reducible exact Below.refl _ _) | (with_reducible assumption) | (with_reducible refine Below.alloc ?_ ?_ _) | (with_reducible refine Below.drew ?_) | (with_reducible refine below_drewN ?_ _) | (with_reducible refine Below.setCell ?_ ?_ _) | (with_reducible refine Below.trans ?_ (Below.mono (by with_reducible assumption) ?_)) | omega | (simp only [ZA, ZS, ZD, ZN]; omega) | go_size))
                    have hbr := HAL.out.trans (hb9.mono (by omega))
                    have q1 := (HVr.out.below hbr).put (od.rs (b0 := 0))
                    have e20 : SB j + PS s + RN s * XT s = SB j + PS (s + 1) := by rw [HP1.out, Rat.add_assoc]
                    rw [e20] at q1
                    have nb := below_set3 (HB.out.trans (hbr.mono hzr2)) (Nat.le_refl _) (.bool s9) (.slice A9' n9 c9') (.slice B9 m9 d9)
                    have HPz := Lib.hid q1
                    have HNB := Lib.hid nb
                    clear q1 nb od ob e20 hb9 hbr
                    go_wp2
                    go_roundw
                    case rel => exact ⟨s + 1, by omega, by go_num, HPz.out, HNB.out⟩
                    case measure => simp [intOf]; omega
                · have hsn9 : s = c.nd := by omega
                  subst hsn9
                  have q15' := hv.1
                  obtain ⟨s15, A15, n15, c15, B15, m15, d15, v0, v1, v2, r15⟩ := q15'
                  obtain ⟨bt', ot', s2, A2, n2, c2, B2, m2, d2, ex, -, p0, p1, p2, r2⟩ := R8.out.at_ hsn
                  injection ex with ex
                  injection ex with ex exo
                  subst ex exo
                  have G0 := (hb.cell (lt_of_cell p0)).trans p0
                  have G1 := (hb.cell (lt_of_cell p1)).trans p1
                  have G2 := (hb.cell (lt_of_cell p2)).trans p2
                  have C1 := (hb.cell (p := ⟨w.heap.size, 1, none⟩) (by show w.heap.size < _; omega)).trans i1
                  have q15 := r15.canQ (HZ2.out c.nd (Nat.le_refl _))
                  have qT := ((r2.kp (Kp.of_below hb)).canQ (HTS.out sr)).more (show 220000001 ≤ M by omega)
                  have KCm : Hid (∀ W, Below wr.heap.size wr W → Calls Tryz.prog 35 #[rv s15 A15 n15 c15 B15 m15 d15, rv s2 A2 n2 c2 B2 m2 d2] W fun e w' => e = .returned (.int .i64 0) ∧ Below W.heap.size W w') := by
                    show ∀ _, _
                    intro W hb'
                    have := cmpQ (q15.below hb') (qT.below hb') (by omega) (by omega)
                    rw [HTK3.out.1, Rat.sub_self] at this
                    exact this
                  have hbt3 : bt < wr.heap.size := by omega
                  have HBF := Lib.hid (HB8.out.trans (hb.mono HB8.out.size))
                  clear p0 p1 p2 r2 r15 q15 qT hb hv
                  go_wp2
                  go_region_held3 (fun W => W.cell? ⟨w.heap.size, 1, none⟩ = some (.int .i64 (sr : Int)) ∧ W.cell? ⟨bt, ot + sr * 3, none⟩ = some (.bool s2) ∧ W.cell? ⟨bt, ot + sr * 3 + 1, none⟩ = some (.slice A2 n2 c2) ∧ W.cell? ⟨bt, ot + sr * 3 + 2, none⟩ = some (.slice B2 m2 d2) ∧ W.cell? ⟨w8.heap.size, 0, none⟩ = some (.bool s15) ∧ W.cell? ⟨w8.heap.size, 1, none⟩ = some (.slice A15 n15 c15) ∧ W.cell? ⟨w8.heap.size, 2, none⟩ = some (.slice B15 m15 d15)) (go_keep)
                    (first | ((go_at_call 35; (with_reducible refine (KCm.out _ (by (skip); repeat' (first | (with_reducible exact Below.refl _ _) | (with_reducible assumption) | (with_reducible refine Below.alloc ?_ ?_ _) | (with_reducible refine Below.drew ?_) | (with_reducible refine below_drewN ?_ _) | (with_reducible refine Below.setCell ?_ ?_ _) | (with_reducible refine Below.trans ?_ (Below.mono (by with_reducible assumption) ?_)) | omega | (simp only [ZA, ZS, ZD, ZN]; omega) | go_size))).mono ?_); rintro e wb ⟨rfl, hbb⟩; have hbbz := Below.size hbb; (try simp only [ZA, ZS, ZD] at hbbz); have hbbc0 := fun o => below_at hbb (w.heap.size) o (by first | omega | (simp only [ZA, ZS, ZD]; omega)); have hbbf0 := fun o => below_fr hbb (w.heap.size) o (by first | omega | (simp only [ZA, ZS, ZD]; omega)); have hbbl0 : w.heap.size < (wb).heap.size := (by omega); have hbbc1 := fun o => below_at hbb (bt) o (by first | omega | (simp only [ZA, ZS, ZD]; omega)); have hbbf1 := fun o => below_fr hbb (bt) o (by first | omega | (simp only [ZA, ZS, ZD]; omega)); have hbbl1 : bt < (wb).heap.size := (by omega); have hbbc2 := fun o => below_at hbb (w8.heap.size) o (by first | omega | (simp only [ZA, ZS, ZD]; omega)); have hbbf2 := fun o => below_fr hbb (w8.heap.size) o (by first | omega | (simp only [ZA, ZS, ZD]; omega)); have hbbl2 : w8.heap.size < (wb).heap.size := (by omega))) | fail)
                  all_goals
                    have HBZ := Lib.hid (HBF.out.trans (((by have z0 := Below.size hbb; (try simp only [ZA, ZS, ZD, ZN] at z0 ⊢; skip); repeat' (first | (with_reducible exact Below.refl _ _) | (with_reducible assumption) | (with_reducible refine Below.alloc ?_ ?_ _) | (with_reducible refine Below.drew ?_) | (with_reducible refine below_drewN ?_ _) | (with_reducible refine Below.setCell ?_ ?_ _) | (with_reducible refine Below.trans ?_ (Below.mono (by with_reducible assumption) ?_)) | omega | (simp only [ZA, ZS, ZD, ZN]; omega) | go_size)) : Below wr.heap.size wr wb).mono HBF.out.size))
                    go_wp2
                    go_ret
                    exact ⟨rfl, HBZ.out⟩
end Go.Proofs.YtomkdgcpmpbfhaaGreatDoor
