/- Contracts of functions and lemmas, used by the proofs of the given statements. No condition beyond those that each lemma names. -/
import Derived.Test.YtmebdlilbnadgaaGreatDoorLinC
namespace Go.Proofs.YtmebdlilbnadgaaGreatDoor
open Go.RowKit
set_option linter.unusedSimpArgs false
set_option linter.unusedVariables false
set_option maxRecDepth 20000
attribute [local irreducible] nv wp win plainB validR valR canR gj findR elim swp gl
/-! ## package linear: reduce -/
def RetRed (b0 bo co n c base : Nat) (M : Mf) (e : Ending) (w' : World) : Prop :=
  ∃ P cp, e = .returned (.tuple #[.slice (some ⟨bo, 0, none⟩) (gj n M c).2.length co, .slice P (gj n M c).2.length cp]) ∧ MatG w' b0 bo co n (fun _ => c) (gj n M c).1 ∧ OwI w' base P cp (gj n M c).2
theorem MatG.cap {w : World} {b0 bo co n : Nat} {len : Nat → Nat} {M : Mf} (h : MatG w b0 bo co n len M) : n ≤ co := by
  obtain ⟨A, c, Ar, cp, _, _, _, h, _⟩ := h
  obtain ⟨A', c', e, h2⟩ := own_form h
  injection e with _ _ e3
  omega
/-- two rows -/
theorem MatG.rows2 {w : World} {b0 bo co n c i j : Nat} {M : Mf} (h : MatG w b0 bo co n (fun _ => c) M) (hi : i < n) (hj : j < n) (hij : i ≠ j) (hc : 0 < c) :
    ∃ g d g2 d2, g ≠ g2 ∧ MatX w b0 bo co n i (some ⟨g, 0, none⟩) d (fun _ => c) M ∧ MatX w b0 bo co n j (some ⟨g2, 0, none⟩) d2 (fun _ => c) M := by
  obtain ⟨A9, c9, Ar, cp, _, _, hd, h1, h2⟩ := h
  obtain ⟨g, hg⟩ := (h2 i hi).form hc
  obtain ⟨g2, hg2⟩ := (h2 j hj).form hc
  exact ⟨g, cp i, g2, cp j, hd i j hi hj hij _ _ hg hg2, ⟨Ar, cp, hg, rfl, hd, h1, h2⟩, ⟨Ar, cp, hg2, rfl, hd, h1, h2⟩⟩
theorem MatG.row1 {w : World} {b0 bo co n c i : Nat} {M : Mf} (h : MatG w b0 bo co n (fun _ => c) M) (hi : i < n) (hc : 0 < c) : ∃ g d, MatX w b0 bo co n i (some ⟨g, 0, none⟩) d (fun _ => c) M := by
  obtain ⟨A, d, hX⟩ := h.row i
  obtain ⟨g, rfl⟩ := hX.head hi hc
  exact ⟨g, d, hX⟩
/-- the pivot's row, divided as far as j -/
def dv (S : Mf) (a k j : Nat) : Nat → Rat := fun b => if b < j then S a b / S a k else S a b
theorem dv_succ (S : Mf) (a k j : Nat) : upd (dv S a k j) j (S a j / S a k) = dv S a k (j + 1) := by
  funext b
  unfold upd dv
  by_cases h : b = j
  · subst h; simp
  · by_cases h2 : b < j
    · simp [h, h2, show b < j + 1 by omega]
    · simp [h, h2, show ¬ b < j + 1 by omega]
theorem upd_upd {α : Type} (f : Nat → α) (k : Nat) (x y : α) : upd (upd f k x) k y = upd f k y := by
  funext j
  unfold upd
  split <;> rfl
/-- behind i rows -/
def el (S : Mf) (a k c i : Nat) : Mf := fun x b => if x < i ∧ x ≠ a then elim S a k x b else if x = a then dv S a k c b else S x b
theorem dv_lt {S : Mf} {a k c b : Nat} (h : b < c) : dv S a k c b = S a b / S a k := by unfold dv; rw [if_pos h]
theorem el_row {S : Mf} {a k c i : Nat} (h : i ≠ a) : el S a k c i i = S i := by funext b; unfold el; simp [h]
theorem el_piv {S : Mf} {a k c i : Nat} : el S a k c i a = dv S a k c := by funext b; unfold el; simp
theorem el_zero (S : Mf) (a k c : Nat) : upd S a (dv S a k c) = el S a k c 0 := by
  funext x b
  unfold upd el
  by_cases hx : x = a
  · simp [hx]
  · simp [hx]
theorem el_at (S : Mf) (a k c : Nat) : el S a k c (a + 1) = el S a k c a := by
  funext x b
  unfold el
  by_cases hx : x = a
  · simp [hx]
  · by_cases h : x < a
    · simp [hx, h, show x < a + 1 by omega]
    · simp [hx, h, show ¬ x < a + 1 by omega]
theorem elim_zero {S : Mf} {a k i b : Nat} (h : i ≠ a) (hp : S i k = 0) : elim S a k i b = S i b := by
  unfold elim
  rw [if_neg h, hp, Rat.zero_mul]
  grind
theorem el_skip {S : Mf} {a k c i : Nat} (h : i ≠ a) (hp : S i k = 0) : el S a k c (i + 1) = el S a k c i := by
  funext x b
  unfold el
  by_cases hx : x = a
  · simp [hx]
  · by_cases hx2 : x = i
    · subst hx2
      rw [if_pos ⟨by omega, hx⟩, if_neg (by omega), if_neg hx, elim_zero hx hp]
    · by_cases h3 : x < i
      · rw [if_pos ⟨by omega, hx⟩, if_pos ⟨h3, hx⟩]
      · simp [h3, hx, show ¬ x < i + 1 by omega]
theorem el_step {S : Mf} {a k c i : Nat} (h : i ≠ a) : ∀ x b, b < c → upd (el S a k c i) i (fun b => S i b - S i k * dv S a k c b) x b = el S a k c (i + 1) x b := by
  intro x b hb
  unfold upd
  by_cases hx : x = i
  · subst hx
    rw [if_pos rfl]
    unfold el
    rw [if_pos ⟨by omega, h⟩, dv_lt hb]
    unfold elim
    rw [if_neg h]
  · rw [if_neg hx]
    unfold el
    by_cases h3 : x < i ∧ x ≠ a
    · rw [if_pos h3, if_pos ⟨by omega, h3.2⟩]
    · by_cases h4 : x = a
      · simp [h4]
      · have h5 : ¬ x < i := fun e => h3 ⟨e, h4⟩
        simp [h4, h5, show ¬ x < i + 1 by omega]
theorem el_end {S : Mf} {a k c n x b : Nat} (hx : x < n) (hb : b < c) : el S a k c n x b = elim S a k x b := by
  unfold el
  by_cases h : x = a
  · subst h
    rw [if_neg (by omega), if_pos rfl, dv_lt hb]
    unfold elim
    rw [if_pos rfl]
  · rw [if_pos ⟨hx, h⟩]
theorem below_drew (w : World) : Below w.heap.size w w.drew := (Below.refl _ _).drew
theorem cell_set_eq {w : World} {b i j : Nat} {u v : Value} (h : w.cell? ⟨b, i, none⟩ = some u) (h' : w.cell? ⟨b, j, none⟩ = some v) : (w.setCell ⟨b, i, none⟩ v).cell? ⟨b, j, none⟩ = some v := by
  by_cases e : i = j
  · subst e; exact World.cell?_setCell_same _ _ _ h
  · rw [World.cell?_setCell_other _ _ _ _ (by intro e2; injection e2 with _ e2 _; exact e e2)]; exact h'
set_option maxHeartbeats 8000000 in
theorem reduce_any {w : World} {b0 bo co n c L : Nat} {M : Mf} (h : MatG w b0 bo co n (fun _ => c) M) (hn0 : 0 < n) (hc0 : 0 < c) (hn : n ≤ 1000) (hc : c ≤ 1000) (hs : b0 ≤ w.heap.size)
    (hz : ∀ a b, a < n → b < c → Sz L (M a b)) (hL : 1 ≤ L) (hg : gl L c ≤ 1000000000) :
    Calls Tryz.prog 93 #[.slice (some ⟨bo, 0, none⟩) n co] w fun e w' => RetRed b0 bo co n c w.heap.size M e w' ∧ Below b0 w w' ∧ Kp b0 w w' := by
  have HSZ := Lib.hid (gj_sz hL hz)
  have HGL := Lib.hid (fun k (hk : k ≤ c) => Nat.le_trans (gl_mono (L := L) hk) hg)
  have HGP := Lib.hid (gl_pos hL)
  have hcap := h.cap
  clear hz hg
  go_enter Tryz.func93, Tryz.ntmps93
  go_wp2
  go_loopw [4, 5] (fun pv kk wr => ∃ (k : Nat) (P : Option Addr) (cp na : Nat), k ≤ c ∧ na = (gj n M k).2.length ∧ kk = .int .i64 k ∧ pv = .slice P na cp ∧ MatG wr b0 bo co n (fun _ => c) (gj n M k).1 ∧ OwI wr w.heap.size P cp (gj n M k).2 ∧ Below b0 w wr ∧ Kp b0 w wr) (fun _ kk _ => c - (intOf kk).toNat)
  case atStart => exact ⟨0, none, 0, 0, Nat.zero_le _, by unfold gj; rfl, rfl, rfl, by unfold gj; exact h, by unfold gj; exact OwI.nil_ _ _, Below.refl _ _, Kp.refl _ _⟩
  case round =>
    obtain ⟨k, P, cp, na, hk, hna, rfl, rfl, own, opv, hb, hkp⟩ := hrel
    have hlen := (gj_len_le (n := n) (M := M) k)
    rw [← hna] at hlen
    have hbz := hb.size
    have HNA := Lib.hid hna
    clear hna
    obtain ⟨g0, d0, hX0⟩ := own.row1 hn0 hc0
    have hc00 := hX0.cell hn0
    clear hX0
    try simp only at hc00
    have hnn : (0 : Int) < (n : Int) := by omega
    by_cases hend : k < c ∧ na < n
    · obtain ⟨hlt, hlt2⟩ := hend
      have hlt3 : ((na : Int) < (n : Int)) := by omega
      have hlt4 : ((k : Int) < (c : Int)) := by omega
      obtain ⟨S, hS⟩ : ∃ S, S = (gj n M k).1 := ⟨_, rfl⟩
      rw [← hS] at own
      have HS := Lib.hid hS
      clear hS
      go_wp2
      obtain ⟨wq, hwq⟩ : ∃ wq, wq = wr := ⟨_, rfl⟩
      subst hwq
      go_loopw [7] (fun rr wr => ∃ r : Nat, na ≤ r ∧ r ≤ n ∧ rr = .int .i64 r ∧ (∀ i, na ≤ i → i < r → S i k = 0) ∧ Below wq.heap.size wq wr) (fun rr _ => n - (intOf rr).toNat)
      case atStart => exact ⟨na, Nat.le_refl _, by omega, rfl, fun i h1 h2 => by omega, Below.refl _ _⟩
      case round =>
        obtain ⟨r, hr1, hr2, rfl, hzero, hb1⟩ := hrel
        have HZ := Lib.hid hzero
        clear hzero
        have hb1z := hb1.size
        have own1 := own.below hb1
        have hlo := own1.lt
        by_cases hr3 : r < n
        · obtain ⟨g1, d1, hX1⟩ := own1.row1 hr3 hc0
          have hc1 := hX1.cell hr3
          obtain ⟨s1, A1, n1, c1, B1, m1, e1, f0, f1, f2, r1⟩ := (hX1.own hr3).at_ hlt
          try simp only at hc1
          have hsz := HSZ.out k (by omega) r k hr3 hlt
          rw [← HS.out] at hsz
          have K := Lib.hid (signQ (r1.canQ hsz) (HGP.out k) (by have := HGL.out k (by omega); omega))
          clear r1 hsz hX1
          by_cases hp : S r k = 0
          · rw [hp, sgnQ_zero.2 rfl] at K
            have HP := Lib.hid hp
            clear hp
            go_wp2_with (first | (go_at_call 30; (with_reducible refine (K.out).mono ?_); rintro e w2 ⟨rfl, hb2⟩; have hb2z := Below.size hb2; (try simp only [ZA, ZS, ZD] at hb2z); have hb2c0 := fun o => below_at hb2 (bo) o (by first | omega | (simp only [ZA, ZS, ZD]; omega)); have hb2f0 := fun o => below_fr hb2 (bo) o (by first | omega | (simp only [ZA, ZS, ZD]; omega)); have hb2l0 : bo < (w2).heap.size := (by omega)) | fail)
            go_roundw
            case rel =>
              refine ⟨r + 1, by omega, by omega, by go_num, fun i h1 h2 => ?_, (by have z0 := Below.size hb1; have z1 := Below.size hb2; (try simp only [ZA, ZS, ZD, ZN] at z0 z1 ⊢; skip); repeat' (first | (with_reducible exact Below.refl _ _) | (with_reducible assumption) | (with_reducible refine Below.alloc ?_ ?_ _) | (with_reducible refine Below.drew ?_) | (with_reducible refine below_drewN ?_ _) | (with_reducible refine Below.setCell ?_ ?_ _) | (with_reducible refine Below.trans ?_ (Below.mono (by with_reducible assumption) ?_)) | omega | (simp only [ZA, ZS, ZD, ZN]; omega) | go_size))⟩
              by_cases e : i = r
              · rw [e]; exact HP.out
              · exact HZ.out i h1 (by omega)
            case measure => simp [intOf]; omega
          · have hq1 := sgn_eq hp
            have hq2 := sgn_ne hp
            have HP := Lib.hid hp
            clear hp
            generalize sgnQ (S r k) = sg at *
            have hr4 : ((r : Int) == (n : Int)) = false := beq_eq_false_iff_ne.2 (by omega)
            go_wp2_with (first | (go_at_call 30; (with_reducible refine (K.out).mono ?_); rintro e w2 ⟨rfl, hb2⟩; have hb2z := Below.size hb2; (try simp only [ZA, ZS, ZD] at hb2z); have hb2c0 := fun o => below_at hb2 (bo) o (by first | omega | (simp only [ZA, ZS, ZD]; omega)); have hb2f0 := fun o => below_fr hb2 (bo) o (by first | omega | (simp only [ZA, ZS, ZD]; omega)); have hb2l0 : bo < (w2).heap.size := (by omega)) | fail)
            have own2 := own1.below hb2
            obtain ⟨AA, dA, AB, dB, hcA, hcB, own3, hkp3, hkt3, hb3⟩ := own2.swap (show na < n by omega) hr3 (by omega)
            have hfz := own2.frozen
            have hi1 : (na : Int) < (n : Int) := by omega
            have hi2 : (r : Int) < (n : Int) := by omega
            have hi3 : (0 : Int) ≤ (na : Int) := by omega
            have hi4 : (0 : Int) ≤ (r : Int) := by omega
            clear hc1 f0 f1 f2 hq1 hq2 hr4 hc00 hb2c0 hb2f0
            have hc5 : (w2.setCell ⟨bo, na, none⟩ (.slice AB c dB)).cell? ⟨bo, r, none⟩ = some (.slice AB c dB) := cell_set_eq hcA hcB
            go_region
            obtain ⟨w3, hw3⟩ : ∃ w3, w3 = ((w2.setCell ⟨bo, na, none⟩ (.slice AB c dB)).setCell ⟨bo, r, none⟩ (.slice AA c dA)).drew := ⟨_, rfl⟩
            rw [← hw3]
            have hbd := below_drew ((w2.setCell ⟨bo, na, none⟩ (.slice AB c dB)).setCell ⟨bo, r, none⟩ (.slice AA c dA))
            have own4 : MatG w3 b0 bo co n (fun _ => c) (swp S na r) := hw3 ▸ own3.below hbd
            have hkp4 : Kp b0 w w3 := hw3 ▸ ((hkp.trans (Kp.of_below (by have z0 := Below.size hb1; have z1 := Below.size hb2; (try simp only [ZA, ZS, ZD, ZN] at z0 z1 ⊢; skip); repeat' (first | (with_reducible exact Below.refl _ _) | (with_reducible assumption) | (with_reducible refine Below.alloc ?_ ?_ _) | (with_reducible refine Below.drew ?_) | (with_reducible refine below_drewN ?_ _) | (with_reducible refine Below.setCell ?_ ?_ _) | (with_reducible refine Below.trans ?_ (Below.mono (by with_reducible assumption) ?_)) | omega | (simp only [ZA, ZS, ZD, ZN]; omega) | go_size)))).trans (hkp3.trans (Kp.of_below hbd)))
            have hb4 : Below b0 w w3 := hw3 ▸ ((hb.trans (hb1.mono (by omega))).trans ((hb2.mono (by omega)).trans (hb3.trans (hbd.mono (by have := hb3.size; omega)))))
            have opv4 : OwI w3 w.heap.size P cp (gj n M k).2 := hw3 ▸ (opv.below (by have z0 := Below.size hb1; have z1 := Below.size hb2; (try simp only [ZA, ZS, ZD, ZN] at z0 z1 ⊢; skip); repeat' (first | (with_reducible exact Below.refl _ _) | (with_reducible assumption) | (with_reducible refine Below.alloc ?_ ?_ _) | (with_reducible refine Below.drew ?_) | (with_reducible refine below_drewN ?_ _) | (with_reducible refine Below.setCell ?_ ?_ _) | (with_reducible refine Below.trans ?_ (Below.mono (by with_reducible assumption) ?_)) | omega | (simp only [ZA, ZS, ZD, ZN]; omega) | go_size))).kt (hkt3.trans (KT.of_below hbd))
            have HSW : Hid (∀ a b, a < n → b < c → Sz (gl L k) (swp S na r a b)) := swp_sz (fun a b ha hb => by rw [HS.out]; exact HSZ.out k (by omega) a b ha hb) (show na < n by omega) hr3
            have HPV : Hid (swp S na r na k ≠ 0) := by show swp S na r na k ≠ 0; unfold swp; simp; exact HP.out
            have HGJ : Hid (gj n M (k + 1) = (elim (swp S na r) na k, (gj n M k).2 ++ [k])) := by
              show gj n M (k + 1) = _
              rw [gj_succ, HNA.out, HS.out]
              exact gjS_yes (by rw [← HNA.out, ← HS.out]; exact findR_eq hr1 hr2 HZ.out (.inr HP.out)) hr3
            have hw3z : w.heap.size ≤ w3.heap.size := hb4.size
            clear hw3 own3 hkp3 hkt3 hb3 hbd hcA hcB hc5 hfz own2 own1 own opv hb hkp hb1 hb2 hb1z hb2z hlo HP HZ K hbz
            obtain ⟨S1, hS1⟩ : ∃ S1, S1 = swp S na r := ⟨_, rfl⟩
            rw [← hS1] at own4 HSW HPV HGJ
            clear hS1 hr1 hr2
            obtain ⟨gA, dA', hXA⟩ := own4.row1 hlt2 hc0
            have hcA := hXA.cell hlt2
            try simp only at hcA
            obtain ⟨s2, A2, n2, c2, B2, m2, e2, f0, f1, f2, rp⟩ := (hXA.own hlt2).at_ hlt
            have hloA := own4.lt
            have hlgA := (hXA.own hlt2).lt
            have hi3 : (0 : Int) ≤ (na : Int) := by omega
            have hX4 := Lib.hid (hXA.below ((Below.refl w3.heap.size w3).alloc (Nat.le_refl _) (.cells #[.bool s2, .slice A2 n2 c2, .slice B2 m2 e2] 30)))
            have HRP := Lib.hid rp
            clear rp hXA
            go_wp2
            have hbal : Below w3.heap.size w3 (w3.alloc (.cells #[.bool s2, .slice A2 n2 c2, .slice B2 m2 e2] 30)) := (Below.refl w3.heap.size w3).alloc (Nat.le_refl _) _
            go_loopw [76] (fun jj wr => ∃ j : Nat, j ≤ c ∧ jj = .int .i64 j ∧ MatX wr b0 bo co n na (some ⟨gA, 0, none⟩) dA' (fun _ => c) (upd S1 na (dv S1 na k j)) ∧ wr.cell? ⟨w3.heap.size, 0, none⟩ = some (.bool s2) ∧ wr.cell? ⟨w3.heap.size, 1, none⟩ = some (.slice A2 n2 c2) ∧ wr.cell? ⟨w3.heap.size, 2, none⟩ = some (.slice B2 m2 e2) ∧ OwI wr w.heap.size P cp (gj n M k).2 ∧ Below b0 w3 wr ∧ Kp b0 w3 wr ∧ w3.heap.size + 1 ≤ wr.heap.size) (fun jj _ => c - (intOf jj).toNat)
            case atStart =>
              refine ⟨0, Nat.zero_le _, rfl, ?_, by simp, by simp, by simp, opv4.below hbal, hbal.mono (by omega), Kp.of_below hbal, by simp⟩
              have e : upd S1 na (dv S1 na k 0) = S1 := by
                have : dv S1 na k 0 = S1 na := by funext b; unfold dv; simp
                rw [this, upd_self]
              rw [e]; exact hX4.out
            case round =>
              obtain ⟨j, hj, rfl, hX, bx0, bx1, bx2, opv5, hb5, hkp5, hwz⟩ := hrel
              have hcH := hX.cell hlt2
              try simp only at hcH
              by_cases hjc : j < c
              · have hrow := hX.own hlt2
                rw [upd_same] at hrow
                obtain ⟨s3, A3, n3, c3', B3, m3, e3, y0, y1, y2, rj⟩ := hrow.at_ hjc
                have hcj : can (dv S1 na k j) j = canR (S1 na j) := by unfold can dv; simp
                rw [hcj] at rj
                have q1 := rj.canQ (HSW.out na j hlt2 hjc)
                have qf := (HRP.out.kp hkp5).canQ (HSW.out na k hlt2 hlt)
                have hGL := HGL.out k (by omega)
                have K1 := Lib.hid (fun W (hb : Below wr.heap.size wr W) => divQ (q1.below hb) (qf.below hb) (HGP.out k) (by omega) HPV.out)
                have hfz := hrow.frozen
                have hlo := hX.mg.lt
                have hlg := hrow.lt
                have hfX := Lib.hid hX
                have HRow := Lib.hid hrow
                have hngb : ¬ (w3.heap.size = gA) := by omega
                have hngb2 : ¬ (gA = w3.heap.size) := by omega
                have hngo : ¬ (bo = gA) := fun e => hX.ne hlt2 rfl e.symm
                have hngo2 : ¬ (gA = bo) := hX.ne hlt2 rfl
                clear hrow hcj q1 qf rj hX
                have hj0 : (0 : Int) ≤ (j : Int) := by omega
                have hj1 : (j : Int) < (c : Int) := by omega
                go_wp2
                rw [ld_later 30 (.tmp 90)]
                go_region_held3 (fun W => W.cell? ⟨w3.heap.size, 0, none⟩ = some (.bool s2) ∧ W.cell? ⟨w3.heap.size, 1, none⟩ = some (.slice A2 n2 c2) ∧ W.cell? ⟨w3.heap.size, 2, none⟩ = some (.slice B2 m2 e2) ∧ W.cell? ⟨bo, na, none⟩ = some (.slice (some ⟨gA, 0, none⟩) c dA')) (go_keep)
                  (first | ((go_at_call 118; (with_reducible refine (K1.out _ (by (skip); repeat' (first | (with_reducible exact Below.refl _ _) | (with_reducible assumption) | (with_reducible refine Below.alloc ?_ ?_ _) | (with_reducible refine Below.drew ?_) | (with_reducible refine below_drewN ?_ _) | (with_reducible refine Below.setCell ?_ ?_ _) | (with_reducible refine Below.trans ?_ (Below.mono (by with_reducible assumption) ?_)) | omega | (simp only [ZA, ZS, ZD, ZN]; omega) | go_size))).mono ?_); rintro e w5 ⟨⟨v5, rfl, own5⟩, hb6⟩; have hb6z := Below.size hb6; (try simp only [ZA, ZS, ZD] at hb6z); have hb6c0 := fun o => below_at hb6 (gA) o (by first | omega | (simp only [ZA, ZS, ZD]; omega)); have hb6f0 := fun o => below_fr hb6 (gA) o (by first | omega | (simp only [ZA, ZS, ZD]; omega)); have hb6l0 : gA < (w5).heap.size := (by omega); have hb6c1 := fun o => below_at hb6 (w3.heap.size) o (by first | omega | (simp only [ZA, ZS, ZD]; omega)); have hb6f1 := fun o => below_fr hb6 (w3.heap.size) o (by first | omega | (simp only [ZA, ZS, ZD]; omega)); have hb6l1 : w3.heap.size < (w5).heap.size := (by omega); have hb6c2 := fun o => below_at hb6 (bo) o (by first | omega | (simp only [ZA, ZS, ZD]; omega)); have hb6f2 := fun o => below_fr hb6 (bo) o (by first | omega | (simp only [ZA, ZS, ZD]; omega)); have hb6l2 : bo < (w5).heap.size := (by omega)); obtain ⟨s5, A5, n5, c5, B5, m5, e5, rfl⟩ := own5.form) | fail)
                all_goals
                  have st := (HRow.out.below (show Below wr.heap.size wr w5 from (by have z0 := Below.size hb6; (try simp only [ZA, ZS, ZD, ZN] at z0 ⊢; skip); repeat' (first | (with_reducible exact Below.refl _ _) | (with_reducible assumption) | (with_reducible refine Below.alloc ?_ ?_ _) | (with_reducible refine Below.drew ?_) | (with_reducible refine below_drewN ?_ _) | (with_reducible refine Below.setCell ?_ ?_ _) | (with_reducible refine Below.trans ?_ (Below.mono (by with_reducible assumption) ?_)) | omega | (simp only [ZA, ZS, ZD, ZN]; omega) | go_size)))).set hjc (own5.rs (b0 := b0))
                  rw [upd_can, dv_succ] at st
                  obtain ⟨hX6, hk6, hb7⟩ := (hfX.out.below (show Below wr.heap.size wr w5 from (by have z0 := Below.size hb6; (try simp only [ZA, ZS, ZD, ZN] at z0 ⊢; skip); repeat' (first | (with_reducible exact Below.refl _ _) | (with_reducible assumption) | (with_reducible refine Below.alloc ?_ ?_ _) | (with_reducible refine Below.drew ?_) | (with_reducible refine below_drewN ?_ _) | (with_reducible refine Below.setCell ?_ ?_ _) | (with_reducible refine Below.trans ?_ (Below.mono (by with_reducible assumption) ?_)) | omega | (simp only [ZA, ZS, ZD, ZN]; omega) | go_size)))).same hlt2 st.2 st.1 (by omega)
                  rw [upd_upd] at hX6
                  have hbw : Below wr.heap.size wr w5 := (by have z0 := Below.size hb6; (try simp only [ZA, ZS, ZD, ZN] at z0 ⊢; skip); repeat' (first | (with_reducible exact Below.refl _ _) | (with_reducible assumption) | (with_reducible refine Below.alloc ?_ ?_ _) | (with_reducible refine Below.drew ?_) | (with_reducible refine below_drewN ?_ _) | (with_reducible refine Below.setCell ?_ ?_ _) | (with_reducible refine Below.trans ?_ (Below.mono (by with_reducible assumption) ?_)) | omega | (simp only [ZA, ZS, ZD, ZN]; omega) | go_size))
                  go_wp2
                  go_roundw
                  case rel =>
                    refine ⟨j + 1, by omega, by go_num, hX6, ?_, ?_, ?_, ((opv5.below hbw).kt ((HRow.out.below hbw).kt st.2)), hb5.trans ((hbw.mono (by omega)).trans hb7), hkp5.trans ((Kp.of_below hbw).trans hk6), ?_⟩
                    · rw [grown_at st.2 0 (by omega) hngb, below_at hbw w3.heap.size 0 (by omega)]; exact bx0
                    · rw [grown_at st.2 1 (by omega) hngb, below_at hbw w3.heap.size 1 (by omega)]; exact bx1
                    · rw [grown_at st.2 2 (by omega) hngb, below_at hbw w3.heap.size 2 (by omega)]; exact bx2
                    · have := st.2.size; omega
                  case measure => simp [intOf]; omega
              · have hjc2 : j = c := by omega
                subst hjc2
                have hGL := HGL.out k (by omega)
                have own6 := hX.mg
                have HSD : Hid (∀ b, b < j → Sz (gl L k + gl L k) (dv S1 na k j b)) := by
                  show ∀ b, b < j → _
                  intro b hb
                  unfold dv
                  rw [if_pos hb]
                  exact (HSW.out na b hlt2 hb).div (HSW.out na k hlt2 hlt) (HGP.out k)
                clear hX bx0 bx1 bx2 hcH hX4 HRP hbal f0 f1 f2 hcA hloA hlgA own4 opv4
                have e0 := el_zero S1 na k j
                rw [e0] at own6
                clear e0
                obtain ⟨w5, hw5⟩ : ∃ w5, w5 = wr := ⟨_, rfl⟩
                subst hw5
                go_wp2
                go_loopw [100] (fun ii wr => ∃ i : Nat, i ≤ n ∧ ii = .int .i64 i ∧ MatG wr b0 bo co n (fun _ => j) (el S1 na k j i) ∧ OwI wr w.heap.size P cp (gj n M k).2 ∧ Below b0 w3 wr ∧ Kp b0 w3 wr) (fun ii _ => n - (intOf ii).toNat)
                case atStart => exact ⟨0, Nat.zero_le _, rfl, own6, opv5, hb5, hkp5⟩
                case round =>
                  obtain ⟨i, hi, rfl, own7, opv7, hb7, hkp7⟩ := hrel
                  have hb7z := hb7.size
                  by_cases hin : i < n
                  · have hi0 : (0 : Int) ≤ (i : Int) := by omega
                    have hi1 : (i : Int) < (n : Int) := by omega
                    have hi5 : (na : Int) < (n : Int) := by omega
                    have hi6 : (0 : Int) ≤ (na : Int) := by omega
                    by_cases hia : i = na
                    · subst hia
                      have HE := Lib.hid (el_at S1 i k j)
                      go_wp2
                      go_roundw
                      case rel => exact ⟨i + 1, by omega, by go_num, by rw [HE.out]; exact own7, opv7, hb7, hkp7⟩
                      case measure => simp [intOf]; omega
                    · have hia2 : ((i : Int) != (na : Int)) = true := by rw [bne_iff_ne]; omega
                      have hia3 : ((i : Int) == (na : Int)) = false := beq_eq_false_iff_ne.2 (by omega)
                      obtain ⟨gI, dI, gB, dB', hgne, hXI, hXB⟩ := own7.rows2 hin hlt2 hia hc0
                      have hcI := hXI.cell hin
                      have hcB := hXB.cell hlt2
                      try simp only at hcI hcB
                      have rI := hXI.own hin
                      have rB := hXB.own hlt2
                      have eI := el_row (S := S1) (k := k) (c := j) hia
                      have eB := el_piv (S := S1) (a := na) (k := k) (c := j) (i := i)
                      rw [eI] at rI
                      rw [eB] at rB
                      obtain ⟨s6, A6, n6, c6, B6, m6, e6, z0, z1, z2, rk⟩ := rI.at_ hlt
                      have hsz := HSW.out i k hin hlt
                      have qk := rk.canQ hsz
                      have K := Lib.hid (signQ qk (HGP.out k) (by omega))
                      have hloB := own7.lt
                      have hlgI := rI.lt
                      have HXI := Lib.hid hXI
                      by_cases hp : S1 i k = 0
                      · rw [hp, sgnQ_zero.2 rfl] at K
                        have HE := Lib.hid (el_skip (S := S1) (a := na) (k := k) (c := j) hia hp)
                        clear hp hsz qk rk rI rB eI eB hXI hXB
                        go_wp2_with (first | (go_at_call 30; (with_reducible refine (K.out).mono ?_); rintro e w6 ⟨rfl, hb8⟩; have hb8z := Below.size hb8; (try simp only [ZA, ZS, ZD] at hb8z); have hb8c0 := fun o => below_at hb8 (bo) o (by first | omega | (simp only [ZA, ZS, ZD]; omega)); have hb8f0 := fun o => below_fr hb8 (bo) o (by first | omega | (simp only [ZA, ZS, ZD]; omega)); have hb8l0 : bo < (w6).heap.size := (by omega)) | fail)
                        go_roundw
                        case rel => exact ⟨i + 1, by omega, by go_num, by rw [HE.out]; exact own7.below hb8, opv7.below hb8, hb7.trans (hb8.mono (by omega)), hkp7.trans (Kp.of_below hb8)⟩
                        case measure => simp [intOf]; omega
                      · have hq1 := sgn_eq hp
                        have hq2 := sgn_ne hp
                        have K2 := Lib.hid (fun W (hb : Below wr.heap.size wr W) => less_any (rI.below hb) (rB.below hb) hgne (rk.kp (Kp.of_below hb)) (hsz.more (show gl L k ≤ gl L k + gl L k by omega)) (fun b hb => (HSW.out i b hin hb).more (show gl L k ≤ gl L k + gl L k by omega)) HSD.out (by have := HGP.out k; omega) (by omega) (by omega))
                        clear hp hsz qk rk rI rB eI eB hXI hXB
                        generalize sgnQ (S1 i k) = sg at *
                        have hngo := (HXI.out.ne hin rfl : gI ≠ bo)
                        have hngo2 : ¬ (bo = gI) := fun e => hngo e.symm
                        go_wp2_with (first | (go_at_call 30; (with_reducible refine (K.out).mono ?_); rintro e w6 ⟨rfl, hb8⟩; have hb8z := Below.size hb8; (try simp only [ZA, ZS, ZD] at hb8z); have hb8c0 := fun o => below_at hb8 (bo) o (by first | omega | (simp only [ZA, ZS, ZD]; omega)); have hb8f0 := fun o => below_fr hb8 (bo) o (by first | omega | (simp only [ZA, ZS, ZD]; omega)); have hb8l0 : bo < (w6).heap.size := (by omega); have hb8c1 := fun o => below_at hb8 (gI) o (by first | omega | (simp only [ZA, ZS, ZD]; omega)); have hb8f1 := fun o => below_fr hb8 (gI) o (by first | omega | (simp only [ZA, ZS, ZD]; omega)); have hb8l1 : gI < (w6).heap.size := (by omega)) | fail)
                        rw [ld_later 30 (.tmp 130)]
                        go_region_held3 (fun W => W.cell? ⟨bo, i, none⟩ = some (.slice (some ⟨gI, 0, none⟩) j dI) ∧ W.cell? ⟨bo, na, none⟩ = some (.slice (some ⟨gB, 0, none⟩) j dB')) (go_keep)
                          (first | (go_at_call 131; (with_reducible refine (K2.out _ (by have z0 := Below.size hb8; (try simp only [ZA, ZS, ZD, ZN] at z0 ⊢; skip); repeat' (first | (with_reducible exact Below.refl _ _) | (with_reducible assumption) | (with_reducible refine Below.alloc ?_ ?_ _) | (with_reducible refine Below.drew ?_) | (with_reducible refine below_drewN ?_ _) | (with_reducible refine Below.setCell ?_ ?_ _) | (with_reducible refine Below.trans ?_ (Below.mono (by with_reducible assumption) ?_)) | omega | (simp only [ZA, ZS, ZD, ZN]; omega) | go_size))).mono ?_); rintro e w8 ⟨rfl, hown8, hgr8⟩; have hx8 := fun oo => hgr8.cell_far ⟨bo, oo, none⟩ (by first | omega | (simp; omega)) (by intro e9; injection e9 with e9; exact hngo e9.symm)) | fail)
                        all_goals
                          have hgw := grown_trans (grown_of_below (show Below wr.heap.size wr _ from (by have z0 := Below.size hb8; (try simp only [ZA, ZS, ZD, ZN] at z0 ⊢; skip); repeat' (first | (with_reducible exact Below.refl _ _) | (with_reducible assumption) | (with_reducible refine Below.alloc ?_ ?_ _) | (with_reducible refine Below.drew ?_) | (with_reducible refine below_drewN ?_ _) | (with_reducible refine Below.setCell ?_ ?_ _) | (with_reducible refine Below.trans ?_ (Below.mono (by with_reducible assumption) ?_)) | omega | (simp only [ZA, ZS, ZD, ZN]; omega) | go_size))) _) hgr8
                          obtain ⟨hX9, hk9, hb9⟩ := HXI.out.same hin hgw hown8 (by omega)
                          have hkt9 : KT wr w8 := (HXI.out.own hin).kt hgw
                          go_wp2
                          go_roundw
                          case rel => exact ⟨i + 1, by omega, by go_num, hX9.mg.congr (fun _ _ => rfl) (fun x b _ hb => el_step hia x b hb), opv7.kt hkt9, hb7.trans hb9, hkp7.trans hk9⟩
                          case measure => simp [intOf]; omega
                  · have hin2 : i = n := by omega
                    subst hin2
                    have own8 : MatG wr b0 bo co i (fun _ => j) (gj i M (k + 1)).1 := own7.congr (fun _ _ => rfl) (fun x b hx hb => by rw [HGJ.out]; exact el_end hx hb)
                    have hpl : (gj i M (k + 1)).2 = (gj i M k).2 ++ [k] := by rw [HGJ.out]
                    have HPL := Lib.hid hpl
                    have hna1 : (gj i M k).2.length = na := HNA.out.symm
                    have HN1 := Lib.hid hna1
                    have hblk := opv7.block
                    have HBK := Lib.hid hblk
                    clear hpl hna1 hblk
                    go_wp2_with (at_builtin; refine wpList_appI1 rfl (.tmp 134) (.tmp 136) rfl w.heap.size P cp na (gj i M k).2 HN1.out (by simp [Act.eval]) (opv7.below ((Below.refl _ _).alloc (Nat.le_refl _) _)) k wr.heap.size (by simp [Act.eval]) (by simp) (by omega) (by simp; omega) ?_; intro P9 cp9 w9 opv9 hb9 hg9)
                    obtain ⟨own10, hk10⟩ := (own8.below ((Below.refl _ _).alloc (Nat.le_refl _) (.cells #[.int .i64 (k : Int)] 3))).int hg9 (fun q hq => ⟨by have := (HBK.out q hq).1; omega, by obtain ⟨_, cur, h9⟩ := HBK.out q hq; exact ⟨cur, by rw [((Below.refl _ _).alloc (Nat.le_refl _) (.cells #[.int .i64 (k : Int)] 3)).block q (Array.getElem?_eq_some_iff.1 h9).1]; exact h9⟩⟩)
                    have hal : Below wr.heap.size wr (wr.alloc (.cells #[.int .i64 (k : Int)] 3)) := (Below.refl _ _).alloc (Nat.le_refl _) _
                    refine ⟨⟨k + 1, P9, cp9, na + 1, by omega, ?_, by go_num, rfl, own10, ?_, ?_, ?_⟩, by simp [intOf]; omega⟩
                    · rw [HPL.out, List.length_append, HN1.out]; rfl
                    · rw [HPL.out]; exact opv9
                    · exact hb4.trans (hb7.trans ((hal.mono (by omega)).trans (hb9.mono hs)))
                    · exact hkp4.trans (hkp7.trans ((Kp.of_below hal).trans hk10))
        · have : r = n := by omega
          subst this
          have HE : Hid (gj r M (k + 1) = gj r M k) := by
            show gj r M (k + 1) = gj r M k
            rw [gj_succ]
            exact gjS_no (by rw [← HNA.out, ← HS.out]; exact findR_eq hr1 (Nat.le_refl _) HZ.out (.inl rfl))
          go_wp2
          go_roundw
          case rel =>
            refine ⟨k + 1, P, cp, na, by omega, ?_, by go_num, rfl, ?_, ?_, hb.trans (hb1.mono (by omega)), hkp.trans (Kp.of_below hb1)⟩
            · rw [HE.out]; exact HNA.out
            · rw [HE.out, ← HS.out]; exact own1
            · rw [HE.out]; exact opv.below hb1
          case measure => simp [intOf]; omega
    · have HE : Hid (gj n M c = gj n M k) := by
        show gj n M c = gj n M k
        by_cases e : k = c
        · rw [e]
        · exact gj_full (by rw [← HNA.out]; omega) (by omega)
      have hcap1 := hcap
      by_cases hkc : k < c
      · have hna2 : na = n := by omega
        subst hna2
        have hlt4 : ((k : Int) < (c : Int)) := by omega
        go_wp2
        refine bodyPost_ret (v := (.tuple #[.slice (some ⟨bo, 0, none⟩) na co, .slice P na cp])) (by simp [results, Tryz.results93, go_sem]) rfl ?_
        exact ⟨⟨P, cp, by rw [HE.out, ← HNA.out], by rw [HE.out]; exact own, by rw [HE.out]; exact opv⟩, hb, hkp⟩
      · have hkc2 : k = c := by omega
        subst hkc2
        go_wp2
        refine bodyPost_ret (v := (.tuple #[.slice (some ⟨bo, 0, none⟩) na co, .slice P na cp])) (by simp [results, Tryz.results93, go_sem]) rfl ?_
        exact ⟨⟨P, cp, by rw [← HNA.out], own, opv⟩, hb, hkp⟩
end Go.Proofs.YtmebdlilbnadgaaGreatDoor
