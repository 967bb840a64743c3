/- Contracts of functions and lemmas, used by the proofs of the given statements. No condition beyond those that each lemma names. -/
import Derived.Test.YtomkdgcpmpbfhaaGreatDoorTrW1
namespace Go.Proofs.YtomkdgcpmpbfhaaGreatDoor
open Go.RowKit
set_option linter.unusedSimpArgs false
set_option linter.unusedVariables false
set_option maxRecDepth 20000
attribute [local irreducible] nv wp win plainB validR valR canR mvE chkM codeC exK maxF
/-! ## package transient: Start, check -/
/-- the first distribution -/
def Chn.v0 (c : Chn) : Nat → Rat := fun s => if (s : Int) = c.sr then 1 else 0
set_option maxHeartbeats 4000000 in
theorem start_any {w : World} {AM AD : Option Addr} {cm cd L : Nat} {c : Chn} (h : ChI w w.heap.size AM cm AD cd c) (hs : ChS c L) :
    Calls Tryz.prog 94 #[cv c.st c.sr AM c.nm cm AD c.nd cd] w fun e w' => RetVe w.heap.size c.nd c.v0 c.code e w' ∧ Below w.heap.size w w' := by
  have K1 := Lib.hid (fun W (hb : Below w.heap.size w W) => chCheck (h.below hb) hs.nm hs.short)
  have hok := Chn.ok_iff (c := c)
  obtain ⟨cc, hcc⟩ : ∃ cc, cc = c.code := ⟨_, rfl⟩
  obtain ⟨X, hX⟩ : ∃ X, X = c.v0 := ⟨_, rfl⟩
  rw [← hcc] at K1 hok ⊢
  rw [← hX]
  by_cases h0 : cc = 0
  · have ok := hok.1 h0
    rw [h0, errM_0] at K1
    have hn1 := ok.lo
    have hn2 := ok.hi
    have hs0 := ok.s0
    have hs1 := ok.s1
    have hst := ok.st
    obtain ⟨u, hu⟩ : ∃ u : Nat, c.sr = (u : Int) := ⟨c.sr.toNat, by omega⟩
    have HX : Hid (∀ s : Nat, X s = if s = u then 1 else 0) := by
      show ∀ s : Nat, _ = _
      intro s
      rw [hX]
      unfold Chn.v0
      rw [hu]
      by_cases e : s = u
      · rw [if_pos e, if_pos (by rw [e])]
      · rw [if_neg e, if_neg (by omega)]
    have H0 := Lib.hid h0
    clear hok ok h0 h hs hcc hX
    obtain ⟨st, sr, nm, F, T, R, nd, D⟩ := c
    simp only at *
    subst hst hu
    have hud : u < nd := by omega
    clear hs0 hs1
    go_enter Tryz.func94, Tryz.ntmps94
    (go_wp2_with fail; (with_reducible refine (K1.out _ (by (skip); repeat' (first | (with_reducible exact Below.refl _ _) | (with_reducible assumption) | (with_reducible refine Below.alloc ?_ ?_ _) | (with_reducible refine Below.drew ?_) | (with_reducible refine below_drewN ?_ _) | (with_reducible refine Below.setCell ?_ ?_ _) | (with_reducible refine Below.trans ?_ (Below.mono (by with_reducible assumption) ?_)) | omega | (simp only [ZA, ZS, ZD, ZN]; omega) | go_size))).mono ?_); rintro e w1 ⟨rfl, hb1⟩; have hb1z := Below.size hb1; (try simp only [ZA, ZS, ZD, ZN] at hb1z); have hb1c0 := fun o => below_at hb1 (w.heap.size) o (by first | omega | (simp only [ZA, ZS, ZD, ZN]; omega)); have hb1f0 := fun o => below_fr hb1 (w.heap.size) o (by first | omega | (simp only [ZA, ZS, ZD, ZN]; omega)))
    go_wp2_with (at_make; refine wpList_makeR rfl (.tmp 12) (.tmp 12) rfl 0 nd (nd : Int) (nd : Int) (by simp [Act.eval]) (by simp [Act.eval]) rfl rfl (by omega) (Nat.zero_le _) ?_; intro w2 own2 hb2; have y0 : w2.cell? ⟨w.heap.size, 1, none⟩ = some (.int .i64 (u : Int)) := (hb2.cell (p := ⟨w.heap.size, 1, none⟩) (by simp at *; omega)).trans (by rw [hb1c0]; simp))
    have hlt := own2.lt
    have hfz := own2.frozen
    have hz2 := hb2.size
    obtain ⟨s3, A3, n3, c3', B3, m3, d3, g0, g1, g2, r3⟩ := own2.at_ hud
    have hu0 : (u : Int) < (nd : Int) := by omega
    have HO2 := Lib.hid own2
    clear own2 r3
    have hw1 : w.heap.size < w1.heap.size := by have := hb1.size; simp at this; omega
    have ne1 : ¬ (w.heap.size = w1.heap.size) := by omega
    have ne2 : ¬ (w1.heap.size = w.heap.size) := by omega
    go_region_held3 (fun W => W.cell? ⟨w.heap.size, 1, none⟩ = some (.int .i64 (u : Int))) (go_keep)
      (first | ((go_at_call 28; (with_reducible refine (ofOne _).mono ?_); rintro e w3 ⟨⟨v3, rfl, own3⟩, hb3⟩; have hb3z := Below.size hb3; (try simp only [ZA, ZS, ZD] at hb3z); have hb3c0 := fun o => below_at hb3 (w.heap.size) o (by first | omega | (simp only [ZA, ZS, ZD]; omega)); have hb3f0 := fun o => below_fr hb3 (w.heap.size) o (by first | omega | (simp only [ZA, ZS, ZD]; omega)); have hb3l0 : w.heap.size < (w3).heap.size := (by omega); have hb3c1 := fun o => below_at hb3 (w1.heap.size) o (by first | omega | (simp only [ZA, ZS, ZD]; omega)); have hb3f1 := fun o => below_fr hb3 (w1.heap.size) o (by first | omega | (simp only [ZA, ZS, ZD]; omega)); have hb3l1 : w1.heap.size < (w3).heap.size := (by omega)); obtain ⟨s4, A4, n4, c4, B4, m4, d4, rfl⟩ := own3.form) | fail)
    all_goals
      have hb9 : Below w2.heap.size w2 w3 := (by have z0 := Below.size hb3; (try simp only [ZA, ZS, ZD, ZN] at z0 ⊢; skip); repeat' (first | (with_reducible exact Below.refl _ _) | (with_reducible assumption) | (with_reducible refine Below.alloc ?_ ?_ _) | (with_reducible refine Below.drew ?_) | (with_reducible refine below_drewN ?_ _) | (with_reducible refine Below.setCell ?_ ?_ _) | (with_reducible refine Below.trans ?_ (Below.mono (by with_reducible assumption) ?_)) | omega | (simp only [ZA, ZS, ZD, ZN]; omega) | go_size))
      have o4 := (HO2.out.below hb9).set hud (own3.rs (b0 := 0))
      have hb12 : Below w.heap.size w w1 := (by have z0 := Below.size hb1; (try simp only [ZA, ZS, ZD, ZN] at z0 ⊢; skip); repeat' (first | (with_reducible exact Below.refl _ _) | (with_reducible assumption) | (with_reducible refine Below.alloc ?_ ?_ _) | (with_reducible refine Below.drew ?_) | (with_reducible refine below_drewN ?_ _) | (with_reducible refine Below.setCell ?_ ?_ _) | (with_reducible refine Below.trans ?_ (Below.mono (by with_reducible assumption) ?_)) | omega | (simp only [ZA, ZS, ZD, ZN]; omega) | go_size))
      have hb8 : Below w.heap.size w w3 := (hb12.trans (hb2.mono (by omega))).trans (hb9.mono (by omega))
      have hb7 := hb8.trans (below_of_row o4.2 (fun q hq => by have h2 : w1.heap.size = q := (by injection hq); omega) hb8.size)
      have HO := Lib.hid o4
      have HB7 := Lib.hid hb7
      clear o4 hb7
      go_wp2
      go_ret2
      refine ⟨retVe_0 H0.out ⟨HO.out.1.congr fun s hs => ?_, fun q hq => by have h2 : w1.heap.size = q := (by injection hq); omega⟩, HB7.out⟩
      unfold upd can
      rw [HX.out s]
      by_cases e : s = u
      · simp [e]
      · simp [e]
  · have hE := errM_n h0
    rw [hE] at K1
    have H0 := Lib.hid h0
    have HE := Lib.hid hE
    clear hok h0 h hs hcc hE hX
    obtain ⟨st, sr, nm, F, T, R, nd, D⟩ := c
    simp only at *
    go_enter Tryz.func94, Tryz.ntmps94
    (go_wp2_with fail; (with_reducible refine (K1.out _ (by (skip); repeat' (first | (with_reducible exact Below.refl _ _) | (with_reducible assumption) | (with_reducible refine Below.alloc ?_ ?_ _) | (with_reducible refine Below.drew ?_) | (with_reducible refine below_drewN ?_ _) | (with_reducible refine Below.setCell ?_ ?_ _) | (with_reducible refine Below.trans ?_ (Below.mono (by with_reducible assumption) ?_)) | omega | (simp only [ZA, ZS, ZD, ZN]; omega) | go_size))).mono ?_); rintro e w1 ⟨rfl, hb1⟩; have hb1z := Below.size hb1; (try simp only [ZA, ZS, ZD, ZN] at hb1z); have hb1c0 := fun o => below_at hb1 (w.heap.size) o (by first | omega | (simp only [ZA, ZS, ZD, ZN]; omega)); have hb1f0 := fun o => below_fr hb1 (w.heap.size) o (by first | omega | (simp only [ZA, ZS, ZD, ZN]; omega)))
    go_wp2
    go_ret2
    exact ⟨retVe_n H0.out HE.out, (by have z0 := Below.size hb1; (try simp only [ZA, ZS, ZD, ZN] at z0 ⊢; skip); repeat' (first | (with_reducible exact Below.refl _ _) | (with_reducible assumption) | (with_reducible refine Below.alloc ?_ ?_ _) | (with_reducible refine Below.drew ?_) | (with_reducible refine below_drewN ?_ _) | (with_reducible refine Below.setCell ?_ ?_ _) | (with_reducible refine Below.trans ?_ (Below.mono (by with_reducible assumption) ?_)) | omega | (simp only [ZA, ZS, ZD, ZN]; omega) | go_size))⟩
/-- the errors of a chain and a rate -/
def Chn.codeR (c : Chn) (r : Rw) : Int := if c.code ≠ 0 then c.code else if ¬ 0 < valR r ∨ valR r < c.fast then 3 else 0
end Go.Proofs.YtomkdgcpmpbfhaaGreatDoor
