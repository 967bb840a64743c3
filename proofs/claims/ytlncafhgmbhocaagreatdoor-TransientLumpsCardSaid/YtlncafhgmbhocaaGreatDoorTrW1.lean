/- Contracts of functions and lemmas, used by the proofs of the given statements. No condition beyond those that each lemma names. -/
import Derived.Test.YtlncafhgmbhocaaGreatDoorTrMax
namespace Go.Proofs.YtlncafhgmbhocaaGreatDoor
open Go.RowKit
set_option linter.unusedSimpArgs false
set_option linter.unusedVariables false
set_option maxRecDepth 20000
attribute [local irreducible] nv wp win plainB validR valR canR mvE chkM codeC exK maxF
/-! ## package transient: Fastest, Start -/
/-- the greatest exit -/
def Chn.fast (c : Chn) : Rat := maxF c.ex (c.nd - 1)
def RetQe (q : Rat) (code : Int) (e : Ending) (w' : World) : Prop := if code = 0 then ∃ v, e = .returned (.tuple #[v, .nilIface]) ∧ RdS w' 0 v (canR q) else e = .returned (.tuple #[zr, errM code])
theorem retQe_0 {q : Rat} {code : Int} {v : Value} {w' : World} (h : code = 0) (hr : RdS w' 0 v (canR q)) : RetQe q code (.returned (.tuple #[v, .nilIface])) w' := by
  unfold RetQe; rw [if_pos h]; exact ⟨v, rfl, hr⟩
theorem retQe_n {q : Rat} {code : Int} {w' : World} {z : Value} (h : code ≠ 0) (hz : errM code = z) : RetQe q code (.returned (.tuple #[zr, z])) w' := by
  unfold RetQe; rw [if_neg h, hz]
theorem retVe_0 {base n : Nat} {x : Nat → Rat} {code : Int} {A : Option Addr} {c : Nat} {w' : World} (h : code = 0) (hr : OwV w' base A c n x) : RetVe base n x code (.returned (.tuple #[.slice A n c, .nilIface])) w' := by
  unfold RetVe; rw [if_pos h]; exact ⟨A, c, rfl, hr⟩
theorem retVe_n {base n : Nat} {x : Nat → Rat} {code : Int} {w' : World} {z : Value} (h : code ≠ 0) (hz : errM code = z) : RetVe base n x code (.returned (.tuple #[.slice none 0 0, z])) w' := by
  unfold RetVe; rw [if_neg h, hz]
theorem ofOne (W : World) : Calls Tryz.prog 136 #[.int .i64 1] W fun e w' => RetQ W.heap.size 1 e w' ∧ Below W.heap.size W w' := ofQ 1 W (by omega)
/-- what a call needs of a chain -/
structure ChS (c : Chn) (L : Nat) : Prop where
  nm : c.nm ≤ 1000000
  short : Short c.nm c.R
  siz : c.Ok → SizC c L
set_option maxHeartbeats 4000000 in
theorem fastest_any {w : World} {AM AD : Option Addr} {cm cd L : Nat} {c : Chn} (h : ChI w w.heap.size AM cm AD cd c) (hs : ChS c L) :
    Calls Tryz.prog 135 #[cv c.st c.sr AM c.nm cm AD c.nd cd] w fun e w' => RetQe c.fast c.code e w' ∧ Below w.heap.size w w' := by
  have K1 := Lib.hid (fun W (hb : Below w.heap.size w W) => Exit_any (h.below hb) hs.siz hs.nm hs.short)
  have hok := Chn.ok_iff (c := c)
  have hsz := hs.siz
  obtain ⟨cc, hcc⟩ : ∃ cc, cc = c.code := ⟨_, rfl⟩
  obtain ⟨q, hq⟩ : ∃ q, q = c.fast := ⟨_, rfl⟩
  obtain ⟨X, hX⟩ : ∃ X, X = c.ex := ⟨_, rfl⟩
  rw [← hcc] at K1 hok ⊢
  rw [← hX] at K1
  rw [← hq]
  by_cases h0 : cc = 0
  · have ok := hok.1 h0
    have hsx : ∀ k, k < c.nd → Sz L (X k) := fun k _ => by rw [hX]; exact (hsz ok).ex k c.nm (Nat.le_refl _)
    have hL1 := (hsz ok).L1
    have hL2 := (hsz ok).L2
    have hn1 := ok.lo
    have hn2 := ok.hi
    have K2 := Lib.hid (fun W A cc' (hv : RowA W 0 A c.nd (can X)) => max_any (c := cc') hv (by omega) (by omega) hsx hL1 (by omega))
    have hq2 : maxF X (c.nd - 1) = q := by rw [hq, hX]; rfl
    rw [hq2] at K2
    have H0 := Lib.hid h0
    clear hok hsz ok hsx h0 h hs hcc hq hX hq2
    obtain ⟨st, sr, nm, F, T, R, nd, D⟩ := c
    simp only at *
    go_enter Tryz.func135, Tryz.ntmps135
    (go_wp2_with fail; (with_reducible refine (K1.out _ (by (skip); repeat' (first | (with_reducible exact Below.refl _ _) | (with_reducible assumption) | (with_reducible refine Below.alloc ?_ ?_ _) | (with_reducible refine Below.drew ?_) | (with_reducible refine below_drewN ?_ _) | (with_reducible refine Below.setCell ?_ ?_ _) | (with_reducible refine Below.trans ?_ (Below.mono (by with_reducible assumption) ?_)) | omega | (simp only [ZA, ZS, ZD, ZN]; omega) | go_size))).mono ?_); rintro e w1 ⟨hR, hb1⟩; have hb1z := Below.size hb1; (try simp only [ZA, ZS, ZD, ZN] at hb1z); have hb1c0 := fun o => below_at hb1 (w.heap.size) o (by first | omega | (simp only [ZA, ZS, ZD, ZN]; omega)); have hb1f0 := fun o => below_fr hb1 (w.heap.size) o (by first | omega | (simp only [ZA, ZS, ZD, ZN]; omega)); have hb1c1 := fun o => below_at hb1 (w.heap.size + 1) o (by first | omega | (simp only [ZA, ZS, ZD, ZN]; omega)); have hb1f1 := fun o => below_fr hb1 (w.heap.size + 1) o (by first | omega | (simp only [ZA, ZS, ZD, ZN]; omega)))
    unfold RetVe at hR
    rw [if_pos H0.out] at hR
    obtain ⟨A, c1, rfl, own⟩ := hR
    (go_wp2_with fail; (with_reducible refine (K2.out _ A c1 (OwV.ra own)).mono ?_); rintro e w2 ⟨⟨v, rfl, hv⟩, hb2⟩; have hb2z := Below.size hb2; (try simp only [ZA, ZS, ZD, ZN] at hb2z); have hb2c0 := fun o => below_at hb2 (w.heap.size) o (by first | omega | (simp only [ZA, ZS, ZD, ZN]; omega)); have hb2f0 := fun o => below_fr hb2 (w.heap.size) o (by first | omega | (simp only [ZA, ZS, ZD, ZN]; omega)); have hb2c1 := fun o => below_at hb2 (w.heap.size + 1) o (by first | omega | (simp only [ZA, ZS, ZD, ZN]; omega)); have hb2f1 := fun o => below_fr hb2 (w.heap.size + 1) o (by first | omega | (simp only [ZA, ZS, ZD, ZN]; omega)))
    obtain ⟨s3, A3, n3, c3', B3, m3, d3, rfl⟩ := hv.form
    have HV := Lib.hid hv
    clear hv
    go_wp2
    have hb9 : Below w.heap.size w w2 := (by have z0 := Below.size hb1; have z1 := Below.size hb2; (try simp only [ZA, ZS, ZD, ZN] at z0 z1 ⊢; skip); repeat' (first | (with_reducible exact Below.refl _ _) | (with_reducible assumption) | (with_reducible refine Below.alloc ?_ ?_ _) | (with_reducible refine Below.drew ?_) | (with_reducible refine below_drewN ?_ _) | (with_reducible refine Below.setCell ?_ ?_ _) | (with_reducible refine Below.trans ?_ (Below.mono (by with_reducible assumption) ?_)) | omega | (simp only [ZA, ZS, ZD, ZN]; omega) | go_size))
    have hb8 := ((hb9.setCell (p := ⟨w.heap.size + 1, 0, none⟩) (by show _ ≤ w.heap.size + 1; omega) (.bool s3)).setCell (p := ⟨w.heap.size + 1, 1, none⟩) (by show _ ≤ w.heap.size + 1; omega) (.slice A3 n3 c3')).setCell (p := ⟨w.heap.size + 1, 2, none⟩) (by show _ ≤ w.heap.size + 1; omega) (.slice B3 m3 d3)
    refine bodyPost_ret (v := (.tuple #[rv s3 A3 n3 c3' B3 m3 d3, .nilIface])) (by simp [results, Tryz.results135, go_sem, hb1c1, hb2c1]) rfl ?_
    have hB : RatB w2 (w.heap.size + 1) := by
      have h1 := RatB.new (w.alloc (.cells #[.int .i64 st, .int .i64 sr, .slice AM nm cm, .slice AD nd cd] 25)) #[.bool false, .slice none 0 0, .slice none 0 0]
      simp only [World.size_alloc] at h1
      exact (h1.below hb1 (by simp)).below hb2 (by have := hb1.size; simp at this; omega)
    exact ⟨retQe_0 H0.out (HV.out.kp (Kp.store3 hB (Nat.zero_le _) _ _ _)), hb8⟩
  · have hE := errM_n h0
    have H0 := Lib.hid h0
    have HE := Lib.hid hE
    clear hok hsz h0 h hs hcc hE hq hX
    obtain ⟨st, sr, nm, F, T, R, nd, D⟩ := c
    simp only at *
    go_enter Tryz.func135, Tryz.ntmps135
    (go_wp2_with fail; (with_reducible refine (K1.out _ (by (skip); repeat' (first | (with_reducible exact Below.refl _ _) | (with_reducible assumption) | (with_reducible refine Below.alloc ?_ ?_ _) | (with_reducible refine Below.drew ?_) | (with_reducible refine below_drewN ?_ _) | (with_reducible refine Below.setCell ?_ ?_ _) | (with_reducible refine Below.trans ?_ (Below.mono (by with_reducible assumption) ?_)) | omega | (simp only [ZA, ZS, ZD, ZN]; omega) | go_size))).mono ?_); rintro e w1 ⟨hR, hb1⟩; have hb1z := Below.size hb1; (try simp only [ZA, ZS, ZD, ZN] at hb1z); have hb1c0 := fun o => below_at hb1 (w.heap.size) o (by first | omega | (simp only [ZA, ZS, ZD, ZN]; omega)); have hb1f0 := fun o => below_fr hb1 (w.heap.size) o (by first | omega | (simp only [ZA, ZS, ZD, ZN]; omega)); have hb1c1 := fun o => below_at hb1 (w.heap.size + 1) o (by first | omega | (simp only [ZA, ZS, ZD, ZN]; omega)); have hb1f1 := fun o => below_fr hb1 (w.heap.size + 1) o (by first | omega | (simp only [ZA, ZS, ZD, ZN]; omega)))
    unfold RetVe at hR
    rw [if_neg H0.out, HE.out] at hR
    subst hR
    go_wp2
    refine bodyPost_ret (v := (.tuple #[zr, .iface 61 (.int .i64 cc)])) (by simp [results, Tryz.results135, go_sem, hb1c1]) rfl ?_
    have hb9 : Below w.heap.size w w1 := (by have z0 := Below.size hb1; (try simp only [ZA, ZS, ZD, ZN] at z0 ⊢; skip); repeat' (first | (with_reducible exact Below.refl _ _) | (with_reducible assumption) | (with_reducible refine Below.alloc ?_ ?_ _) | (with_reducible refine Below.drew ?_) | (with_reducible refine below_drewN ?_ _) | (with_reducible refine Below.setCell ?_ ?_ _) | (with_reducible refine Below.trans ?_ (Below.mono (by with_reducible assumption) ?_)) | omega | (simp only [ZA, ZS, ZD, ZN]; omega) | go_size))
    exact ⟨retQe_n H0.out HE.out, ((hb9.setCell (p := ⟨w.heap.size + 1, 0, none⟩) (by show _ ≤ w.heap.size + 1; omega) _).setCell (p := ⟨w.heap.size + 1, 1, none⟩) (by show _ ≤ w.heap.size + 1; omega) _).setCell (p := ⟨w.heap.size + 1, 2, none⟩) (by show _ ≤ w.heap.size + 1; omega) _⟩
end Go.Proofs.YtlncafhgmbhocaaGreatDoor
