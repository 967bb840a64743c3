/- Contracts of functions and lemmas, used by the proofs of the given statements. No condition beyond those that each lemma names. -/
import Derived.Test.YtnljncncnohncaaDoorRlF
import Derived.Test.YtnljncncnohncaaDoorLawK
namespace Go.Proofs.YtnljncncnohncaaDoor
open Go.RowKit
set_option linter.unusedSimpArgs false
set_option linter.unusedVariables false
set_option maxRecDepth 20000
attribute [local irreducible] nv wp win plainB validR valR canR gj findR elim swp gl fre kerM rdF
/-! ## LinearReduces -/
theorem rowsC_take {n r : Nat} {Ar : Nat → Option Addr} {len cp : Nat → Nat} (h : r ≤ n) (j : Nat) (u : Value) (hu : (rowsC r Ar len cp)[j]? = some u) : (rowsC n Ar len cp)[j]? = some u := by
  have hj : j < r := by have := (List.getElem?_eq_some_iff.1 hu).1; rwa [rowsC_length] at this
  rw [rowsC_get hj] at hu
  rw [rowsC_get (by omega)]
  exact hu
theorem MatI.take {w : World} {b0 n r : Nat} {A : Option Addr} {len : Nat → Nat} {R : Nat → Nat → Rw} (h : MatI w b0 A n len R) (hr : r ≤ n) : MatI w b0 A r len R := by
  obtain ⟨Ar, cp, h1, h2, h3⟩ := h
  refine ⟨Ar, cp, ⟨by rw [rowsC_length, Nat.mul_one], fun hn => ?_⟩, fun hn a ha => h2 (by omega) a ha, fun i hi => h3 i (by omega)⟩
  obtain ⟨b, off, e, hb, hc⟩ := h1.2 (by omega)
  exact ⟨b, off, e, hb, fun j u hu => hc j u (rowsC_take hr j u hu)⟩
theorem SmallM.rredP {w : World} {n ca : Nat} {A : Option Addr} {len : Nat → Nat} {R : Nat → Nat → Rw} (hs : SmallM n len R) (hc : codeM n len = 0) (h : MatI w w.heap.size A n len R) :
    Calls Tryd.prog 22 #[.slice A n ca] w fun e w' => RetRR w.heap.size n (len 0) (fun i k => valR (R i k)) e w' ∧ Below w.heap.size w w' := by
  obtain ⟨h1, h2, h3, h4, h5, h6⟩ := hs.acc hc
  exact rreduce_any (L := 3) h h3 h4 (by omega) (by omega) h5 h6 (by omega) (by have := gl37 (show len 0 ≤ 8 by omega); omega)
theorem SmallM.rkerP {w : World} {n ca : Nat} {A : Option Addr} {len : Nat → Nat} {R : Nat → Nat → Rw} (hs : SmallM n len R) (hc : codeM n len = 0) (h : MatI w w.heap.size A n len R) :
    Calls Tryd.prog 33 #[.slice A n ca] w fun e w' => RetRK n (len 0) (fun i k => valR (R i k)) e w' ∧ Below w.heap.size w w' := by
  obtain ⟨h1, h2, h3, h4, h5, h6⟩ := hs.acc hc
  exact rkernel_any (L := 3) h h3 h4 (by omega) (by omega) h5 h6 (by omega) (by have := gl37 (show len 0 ≤ 8 by omega); omega)
set_option maxHeartbeats 8000000 in
theorem linearReduces_law {w : World} {n ca : Nat} {A : Option Addr} {len : Nat → Nat} {R : Nat → Nat → Rw} (h : MatI w w.heap.size A n len R) :
    Calls Tryd.prog 6 #[.slice A n ca] w fun e w' => e = .returned (.bool true) ∧ Below w.heap.size w w' := by
  have HA := Lib.hid h
  have KL := Lib.hid (fun (W : World) (g : Nat) (hb : Below w.heap.size w W) (hc : W.cell? ⟨g, 0, none⟩ = some (.slice A n ca)) => large1 (cm := 1) h hb hc)
  clear h
  go_enter Tryd.func6, Tryd.ntmps6
  go_wp2_with (first | (go_at_call 11; (with_reducible refine (awake_any _).mono ?_); rintro e w1 ⟨rfl, hb1⟩; have hb1z := Below.size hb1; (try simp only [World.size_alloc, World.size_setCell, World.size_drew] at hb1z)) | fail)
  have hw1 : Below w.heap.size w (w1.alloc (.cells #[.slice A n ca] 22)) := hb1.alloc hb1.size _
  ((go_at_call 12; (with_reducible refine (KL.out _ _ hw1 (cell_new' rfl rfl)).mono ?_); rintro e w2 ⟨⟨bb, rfl, hbb⟩, hb2⟩; have hb2z := Below.size hb2; (try simp only [World.size_alloc, World.size_setCell, World.size_drew] at hb2z)))
  have hb12 : Below w.heap.size w w2 := hw1.trans (hb2.mono (by simp; omega))
  clear hw1 KL
  cases bb with
  | true =>
    clear hbb
    go_wp2_with (first | (go_at_call 11; (with_reducible refine (awake_any _).mono ?_); rintro e w3 ⟨rfl, hb3⟩; have hb3z := Below.size hb3; (try simp only [World.size_alloc, World.size_setCell, World.size_drew] at hb3z)) | fail)
    have hb13 := hb12.trans (hb3.mono hb12.size)
    go_ret
    exact ⟨rfl, hb13⟩
  | false =>
    have HS := Lib.hid (hbb rfl)
    clear hbb
    have KC := Lib.hid (rcheck_any (ca := ca) (HA.out.at_below hb12) (by have := HS.out.le.1; omega) (fun i hi => by have := HS.out.le.2 i hi; omega))
    by_cases hc : codeM n len = 0
    · rw [hc] at KC
      obtain ⟨hn7, hc7, hn0, hl0, h5, h6⟩ := HS.out.acc hc
      obtain ⟨M, hM⟩ : ∃ M : Mf, M = fun i k => valR (R i k) := ⟨_, rfl⟩
      obtain ⟨c, hcl⟩ : ∃ c, c = len 0 := ⟨_, rfl⟩
      have HSM : ∀ i k, i < n → k < c → Sz 3 (M i k) := fun i k hi hk => by rw [hM]; exact HA.out.sz (m := 0) HS.out hi (by rw [h5 i hi, ← hcl]; exact hk)
      have HSS := Lib.hid (gj_sz (n := n) (M := M) (c := c) (show 1 ≤ 3 by omega) HSM c (Nat.le_refl _))
      have hGL := gl37 (show c ≤ 8 by omega)
      have HG := Lib.hid (gl_pos (L := 3) (by omega) c)
      have HKS := Lib.hid (fun t (ht : t < (fre (gj n M c).2 c).length) j => kerM_sz HG.out HSS.out ht j)
      have K1 := Lib.hid (HS.out.redP (ca := ca) hc (HA.out.at_below hb12))
      have K2 := Lib.hid (fun W (hb : Below w.heap.size w W) => HS.out.rredP (ca := ca) hc (HA.out.at_below hb))
      have K3 := Lib.hid (fun W (hb : Below w.heap.size w W) => HS.out.rankP (ca := ca) hc (HA.out.at_below hb))
      have K4 := Lib.hid (fun W (hb : Below w.heap.size w W) => HS.out.kerP (ca := ca) hc (HA.out.at_below hb))
      have K5 := Lib.hid (fun W (hb : Below w.heap.size w W) => HS.out.rkerP (ca := ca) hc (HA.out.at_below hb))
      have hrn : (gj n M c).2.length ≤ n := (gj_len_le c).2
      have hfc := fre_len (gj n M c).2 c
      unfold RetR3 at K1
      unfold RetRR at K2
      unfold RetKer at K4
      unfold RetRK at K5
      rw [← hM, ← hcl] at K1 K2 K3 K4 K5
      rw [← hcl] at hc7
      clear HSM h5 h6 hM hcl hc hl0
      obtain ⟨K, hK⟩ : ∃ K, K = kerM n M c := ⟨_, rfl⟩
      obtain ⟨p, hp⟩ : ∃ p, p = (gj n M c).2 := ⟨_, rfl⟩
      obtain ⟨S, hS⟩ : ∃ S, S = (gj n M c).1 := ⟨_, rfl⟩
      obtain ⟨fl, hfl⟩ : ∃ fl, fl = (fre (gj n M c).2 c).length := ⟨_, rfl⟩
      rw [← hfl] at HKS K4 K5 hfc
      rw [← hK] at HKS K4 K5
      rw [← hp] at K1 K2 K3 hrn
      rw [← hS] at HSS K1 K2
      obtain ⟨r, hr⟩ : ∃ r, r = p.length := ⟨_, rfl⟩
      rw [← hr] at K1 K2 K3 hrn
      have HR := Lib.hid hr
      obtain ⟨B, hB⟩ : ∃ B, B = gl 3 c := ⟨_, rfl⟩
      rw [← hB] at HSS hGL HG HKS
      clear hB hr hK hp hS hfl
      go_wp2_with (first | (go_at_call 19; (with_reducible refine (KC.out).mono ?_); rintro e _ ⟨rfl, rfl⟩) | ((go_at_call 25; (with_reducible refine (K1.out).mono ?_); rintro e w3 ⟨⟨bo, co, P, cp, rfl, own3, opv3⟩, hb3⟩; have hb3z := Below.size hb3; (try simp only [World.size_alloc, World.size_setCell, World.size_drew] at hb3z))) | fail)
      have hb13 := hb12.trans (hb3.mono hb12.size)
      go_wp2_with fail
      ((go_at_call 22; (with_reducible refine (K2.out _ hb13).mono ?_); rintro e w4 ⟨⟨bo', co', P', cp', v4, rfl, own4, opv4, rd4⟩, hb4⟩; have hb4z := Below.size hb4; (try simp only [World.size_alloc, World.size_setCell, World.size_drew] at hb4z)))
      obtain ⟨sd, Ad, nd, cd, Bd, md, dd, rfl⟩ := rd4.form
      have hal : Below w4.heap.size w4 (w4.alloc (.cells #[.bool sd, .slice Ad nd cd, .slice Bd md dd] 37)) := (Below.refl _ _).alloc (Nat.le_refl _) _
      have hb14 := hb13.trans (hb4.mono hb13.size)
      have hb15 := hb14.trans (hal.mono hb14.size)
      go_wp2_with fail
      ((go_at_call 30; (with_reducible refine (K3.out _ hb15).mono ?_); rintro e w5 ⟨rfl, hb5⟩; have hb5z := Below.size hb5; (try simp only [World.size_alloc, World.size_setCell, World.size_drew] at hb5z)))
      have hb16 := hb15.trans (hb5.mono hb15.size)
      go_wp2_with fail
      ((go_at_call 31; (with_reducible refine (K4.out _ hb16).mono ?_); rintro e w6 ⟨⟨Ak, dk, rfl, mk⟩, hb6⟩; have hb6z := Below.size hb6; (try simp only [World.size_alloc, World.size_setCell, World.size_drew] at hb6z)))
      have hb17 := hb16.trans (hb6.mono hb16.size)
      have h36 : Below w3.heap.size w3 w6 := hb4.trans ((hal.mono hb4.size).trans ((hb5.mono (by have := hb4.size; simp; omega)).trans (hb6.mono (by have := hb4.size; have := hb5.size; simp at *; omega))))
      have h46 : Below w4.heap.size w4 w6 := hal.trans ((hb5.mono (by simp)).trans (hb6.mono (by have := hb5.size; simp at *; omega)))
      have S1 := Lib.hid (((own3.mo.mi (by have := hb12.size; have := hb3.size; omega)).take hrn).at_below h36)
      have S2 := Lib.hid (((own4.mo.mi (by have := hb4.size; omega)).take hrn).at_below h46)
      have I1 := Lib.hid (opv3.below h36)
      have I2 := Lib.hid (opv4.below h46)
      have S3 := Lib.hid mk
      have KS1 := Lib.hid (fun W (hb : Below w6.heap.size w6 W) => same_any (ca := co) (cb := co') (L := B) (S1.out.at_below hb) (S2.out.at_below hb) (by omega) (fun _ _ => by omega) (fun i k hi hk => HSS.out i k (by omega) hk) HG.out (by omega))
      have KI := Lib.hid (fun W (hb : Below w6.heap.size w6 W) => (by
        have := ints_eq (I1.out.below hb) (I2.out.below hb) (by rw [← HR.out]; omega)
        rw [← HR.out] at this
        exact this : Calls Tryd.prog 32 #[.slice P r cp, .slice P' r cp'] W fun e w' => e = .returned (.bool true) ∧ Below W.heap.size W w'))
      have KS2 := Lib.hid (fun W A' d' (hb : Below w6.heap.size w6 W) (m' : MatI W W.heap.size A' fl (fun _ => c) (fun i => can (K i))) => same_any (ca := dk) (cb := d') (L := B) (S3.out.at_below hb) m' (by omega) (fun _ _ => by omega) (fun i k hi _ => HKS.out i hi k) HG.out (by omega))
      have K6 := Lib.hid (fun W (hb : Below w6.heap.size w6 W) => K5.out W (hb17.trans (hb.mono hb17.size)))
      clear own3 own4 opv3 opv4 mk rd4 K1 K2 K3 K4 K5 KC S1 S2 I1 I2 S3
      go_wp2_with (first | (go_at_call 17; (with_reducible refine (KS1.out _ (Below.refl _ _)).mono ?_); rintro e w7 ⟨rfl, hb7⟩; have hb7z := Below.size hb7; (try simp only [World.size_alloc, World.size_setCell, World.size_drew] at hb7z)) | (go_at_call 32; (with_reducible refine (KI.out _ hb7).mono ?_); rintro e w8 ⟨rfl, hb8⟩; have hb8z := Below.size hb8; (try simp only [World.size_alloc, World.size_setCell, World.size_drew] at hb8z)) | ((go_at_call 33; (with_reducible refine (K6.out _ (by have z0 := Below.size hb7; have z1 := Below.size hb8; (try simp only [World.size_alloc, World.size_setCell, World.size_drew, size_drewN'] at z0 z1 ⊢; skip); repeat' (first | (with_reducible exact Below.refl _ _) | (with_reducible assumption) | (with_reducible refine Below.alloc ?_ ?_ _) | (with_reducible refine Below.drew ?_) | (with_reducible refine below_drewN ?_ _) | (with_reducible refine Below.setCell ?_ ?_ _) | (with_reducible refine Below.trans ?_ (Below.mono (by with_reducible assumption) ?_)) | omega | (simp only [World.size_alloc, World.size_setCell, World.size_drew, size_drewN']; omega) | go_size))).mono ?_); rintro e w9 ⟨⟨A9, d9, rfl, m9⟩, hb9⟩; have hb9z := Below.size hb9; (try simp only [World.size_alloc, World.size_setCell, World.size_drew] at hb9z))) | (go_at_call 17; (with_reducible refine (KS2.out _ _ _ (by have z0 := Below.size hb7; have z1 := Below.size hb8; have z2 := Below.size hb9; (try simp only [World.size_alloc, World.size_setCell, World.size_drew, size_drewN'] at z0 z1 z2 ⊢; skip); repeat' (first | (with_reducible exact Below.refl _ _) | (with_reducible assumption) | (with_reducible refine Below.alloc ?_ ?_ _) | (with_reducible refine Below.drew ?_) | (with_reducible refine below_drewN ?_ _) | (with_reducible refine Below.setCell ?_ ?_ _) | (with_reducible refine Below.trans ?_ (Below.mono (by with_reducible assumption) ?_)) | omega | (simp only [World.size_alloc, World.size_setCell, World.size_drew, size_drewN']; omega) | go_size)) m9).mono ?_); rintro e w10 ⟨rfl, hb10⟩; have hb10z := Below.size hb10; (try simp only [World.size_alloc, World.size_setCell, World.size_drew] at hb10z)) | fail)
      have hb18 : Below w.heap.size w w10 := hb17.trans (show Below w.heap.size w6 w10 from (by have z0 := Below.size hb7; have z1 := Below.size hb8; have z2 := Below.size hb9; have z3 := Below.size hb10; (try simp only [World.size_alloc, World.size_setCell, World.size_drew, size_drewN'] at z0 z1 z2 z3 ⊢; skip); repeat' (first | (with_reducible exact Below.refl _ _) | (with_reducible assumption) | (with_reducible refine Below.alloc ?_ ?_ _) | (with_reducible refine Below.drew ?_) | (with_reducible refine below_drewN ?_ _) | (with_reducible refine Below.setCell ?_ ?_ _) | (with_reducible refine Below.trans ?_ (Below.mono (by with_reducible assumption) ?_)) | omega | (simp only [World.size_alloc, World.size_setCell, World.size_drew, size_drewN']; omega) | go_size)))
      go_ret
      exact ⟨rfl, hb18⟩
    · generalize codeM n len = c at *
      have e1 : (c == 0) = false := by simp [hc]
      have e2 : (c != 0) = true := by simp [hc]
      clear HS HA hc
      go_wp2_with (first | (go_at_call 19; (with_reducible refine (KC.out).mono ?_); rintro e _ ⟨rfl, rfl⟩) | (go_at_call 11; (with_reducible refine (awake_any _).mono ?_); rintro e w3 ⟨rfl, hb3⟩; have hb3z := Below.size hb3; (try simp only [World.size_alloc, World.size_setCell, World.size_drew] at hb3z)) | fail)
      have hb13 := hb12.trans (hb3.mono hb12.size)
      go_ret
      exact ⟨rfl, hb13⟩
end Go.Proofs.YtnljncncnohncaaDoor
