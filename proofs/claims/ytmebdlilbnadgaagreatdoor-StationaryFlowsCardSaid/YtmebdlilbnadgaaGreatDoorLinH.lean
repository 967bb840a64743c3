/- Contracts of functions and lemmas, used by the proofs of the given statements. No condition beyond those that each lemma names. -/
import Derived.Test.YtmebdlilbnadgaaGreatDoorJChX
namespace Go.Proofs.YtmebdlilbnadgaaGreatDoor
open Go.RowKit
set_option linter.unusedSimpArgs false
set_option linter.unusedVariables false
set_option maxRecDepth 20000
attribute [local irreducible] nv wp win plainB validR valR canR gj findR elim swp gl
/-! ## package linear: Solve -/
/-- the matrix and one more column -/
def wide (M : Mf) (y : Nat → Rat) (c : Nat) : Mf := fun i k => if k < c then M i k else y i
/-- the number of Solve's error, behind Check -/
def codeS (n c : Nat) (W : Mf) : Int := if (gj n W (c + 1)).2.getLast? = some c then 17 else if (gj n W (c + 1)).2.length < c then 16 else 0
def RetSolve (b0 n c : Nat) (W : Mf) (e : Ending) (w' : World) : Prop :=
  if codeS n c W = 0 then ∃ A d, e = .returned (.tuple #[.slice A c d, .nilIface]) ∧ OwR w' b0 A d c (can fun i => (gj n W (c + 1)).1 i c)
  else e = .returned (.tuple #[.slice none 0 0, errM (codeS n c W)])
theorem OwI.at_ {w : World} {base c k : Nat} {A : Option Addr} {l : List Nat} (h : OwI w base A c l) (hk : k < l.length) : ∃ g, A = some ⟨g, 0, none⟩ ∧ w.cell? ⟨g, k, none⟩ = some (.int .i64 ((l[k] : Nat) : Int)) := by
  have h0 := h
  rcases h.2 with ⟨_, h1⟩ | ⟨g', cap, cur, e, hb, hg, _⟩
  · omega
  · injection e with e1 e2 e3
    subst e1
    refine ⟨g', rfl, ?_⟩
    have := World.ownsRow.cellAt h0 k (by omega)
    rw [this]
    simp [ints, hk]
theorem codeS_17 {n c : Nat} {W : Mf} (h : (gj n W (c + 1)).2.getLast? = some c) : codeS n c W = 17 := by unfold codeS; rw [if_pos h]
theorem codeS_16 {n c : Nat} {W : Mf} (h : (gj n W (c + 1)).2.getLast? ≠ some c) (h2 : (gj n W (c + 1)).2.length < c) : codeS n c W = 16 := by unfold codeS; rw [if_neg h, if_pos h2]
theorem codeS_0 {n c : Nat} {W : Mf} (h : (gj n W (c + 1)).2.getLast? ≠ some c) (h2 : ¬ (gj n W (c + 1)).2.length < c) : codeS n c W = 0 := by unfold codeS; rw [if_neg h, if_neg h2]
theorem retSolve_err {b0 n c : Nat} {W : Mf} {w' : World} {k : Int} (h : codeS n c W = k) (hk : k ≠ 0) : RetSolve b0 n c W (.returned (.tuple #[.slice none 0 0, .iface 41 (.int .i64 k)])) w' := by
  unfold RetSolve
  rw [if_neg (by rw [h]; exact hk), h, errM_n hk]
set_option maxHeartbeats 8000000 in
theorem solve_any {w : World} {n c m ca cb L : Nat} {A B : Option Addr} {len : Nat → Nat} {R : Nat → Nat → Rw} {Rb : Nat → Rw} (h : MatI w w.heap.size A n len R) (hB : RowI w w.heap.size B n Rb) (hcode : codeM n len = 0) (hc : len 0 = c)
    (hz : ∀ i k, i < n → k < c → (R i k).2.1.length ≤ L ∧ (R i k).2.2.length ≤ L) (hok : ∀ i k, i < n → k < c → okR (R i k)) (hzb : ∀ i, i < n → (Rb i).2.1.length ≤ L ∧ (Rb i).2.2.length ≤ L) (hokb : ∀ i, i < n → okR (Rb i)) (hL : 1 ≤ L) (hg : gl L (c + 1) ≤ 1000000000) :
    Calls Tryz.prog 52 #[.slice A n ca, .slice B n cb] w fun e w' => RetSolve w.heap.size n c (wide (fun i k => valR (R i k)) (fun i => valR (Rb i)) c) e w' ∧ Below w.heap.size w w' := by
  obtain ⟨hn0, hl0, hn, hl, hall⟩ := codeM_zero hcode
  rw [hc] at hl0 hl
  have hL2 : L ≤ 1000000000 := by
    have h1 := gl_mono (L := L) (Nat.zero_le (c + 1))
    rw [gl_0] at h1
    omega
  obtain ⟨M, hM⟩ : ∃ M : Mf, M = fun i k => valR (R i k) := ⟨_, rfl⟩
  obtain ⟨y, hy⟩ : ∃ y : Nat → Rat, y = fun i => valR (Rb i) := ⟨_, rfl⟩
  have hszw : ∀ a b, a < n → b < c + 1 → Sz L (wide M y c a b) := fun a b ha hb => by
    unfold wide
    by_cases e : b < c
    · rw [if_pos e, hM]; exact Sz_valR (hok a b ha e) hL (hz a b ha e).1 (hz a b ha e).2
    · rw [if_neg e, hy]; exact Sz_valR (hokb a ha) hL (hzb a ha).1 (hzb a ha).2
  have HSW := Lib.hid hszw
  have HG := Lib.hid hg
  have K1 := Lib.hid (check_any (ca := ca) h (by omega) (fun i hi => by have := hall i hi; omega))
  rw [hcode, errM_0] at K1
  have K2 := Lib.hid (copied_any (L := L) (ca := ca) (w := w) h (by omega) (fun i hi => by have := hall i hi; omega) (fun i k hi hk => hz i k hi (by have := hall i hi; omega)) hL (by omega))
  rw [← hM] at K2 ⊢
  rw [← hy]
  obtain ⟨b, off, A0, c0, rfl, hc0, -⟩ := h.at0 hn0
  rw [hc] at hc0
  have hbb := lt_of_cell hc0
  have HALL := Lib.hid (fun i hi => (hall i hi).trans hc)
  have HB := Lib.hid hB
  have HZB := Lib.hid hzb
  have HY := Lib.hid hy
  clear hM hz hok hg hcode hall hc h hszw hzb hokb hy hB
  go_enter Tryz.func52, Tryz.ntmps52
  go_wp2_with fail
  (with_reducible refine (K1.out).mono ?_)
  rintro e _ ⟨rfl, rfl⟩
  go_wp2_with fail
  (with_reducible refine (K2.out).mono ?_)
  rintro e w1 ⟨⟨bo, co, rfl, own0⟩, hb1⟩
  have own1 := own0.congr (len' := fun j => if j < 0 then c + 1 else c) (fun i hi => by rw [HALL.out i hi]; simp) (M' := wide M y c) (fun i k hi hk => by have := HALL.out i hi; unfold wide; rw [if_pos (by omega)])
  have hb1z := hb1.size
  clear own0
  go_wp2
  go_loopw [30] (fun ii wr => ∃ k : Nat, k ≤ n ∧ ii = .int .i64 k ∧ MatG wr w.heap.size bo co n (fun j => if j < k then c + 1 else c) (wide M y c) ∧ Below w.heap.size w wr ∧ Kp w.heap.size w wr) (fun ii _ => n - (intOf ii).toNat)
  case atStart => exact ⟨0, Nat.zero_le _, rfl, own1, hb1, Kp.of_below hb1⟩
  case round =>
    obtain ⟨k, hk, rfl, own, hb, hkp⟩ := hrel
    have hbz := hb.size
    have hc0r : wr.cell? ⟨b, off, none⟩ = some (.slice A0 c c0) := (below_at hb b off hbb).trans hc0
    by_cases hlt : k < n
    · obtain ⟨b', off', s1, A1, n1, c1, B1, m1, d1, rfl, hbb', e0, e1, e2, r1⟩ := (HB.out.kp hkp).ra.at_ hlt
      obtain ⟨hs1, hs2⟩ := HZB.out k hlt
      have q1 := r1.rdq hs1 hs2
      have hyk : y k = valR (Rb k) := by rw [HY.out]
      rw [← hyk] at q1
      have K3 := Lib.hid (fun W (hb : Below wr.heap.size wr W) => addQ (q1.below hb) ((OwQ.zero W 0).rq (Sz.zero hL)) hL (by omega))
      obtain ⟨A9, c9, hX⟩ := own.row k
      have hcell := hX.cell hlt
      have hown := hX.own hlt
      simp only [Nat.lt_irrefl, if_false] at hcell hown
      have hfz := own.frozen
      have hrl := own_lt hown
      have hro := hX.row_ne hlt
      simp only [Nat.lt_irrefl, if_false] at hro
      have HX := Lib.hid hX
      have HR := Lib.hid hown
      have HRO := Lib.hid hro
      have hne9 : some wr.heap.size ≠ (Value.slice A9 c c9).ownBlock := fun e => by have := (hrl _ e.symm).2; omega
      have HN9 := Lib.hid hne9
      have hlo := own.lt
      clear hX hown hro hrl r1 q1 hs1 hs2 hyk hne9
      have ne1 : ¬ (bo = wr.heap.size) := by omega
      have ne2 : ¬ (wr.heap.size = bo) := by omega
      (have olc := fun o i => below_at ((Below.refl wr.heap.size wr).alloc (Nat.le_refl _) o) (bo) i (by omega)); (have olf := fun o i => below_fr ((Below.refl wr.heap.size wr).alloc (Nat.le_refl _) o) (bo) i (by omega))
      have hi0 : (0 : Int) ≤ (k : Int) := by omega
      have hi1 : (k : Int) < (n : Int) := by omega
      go_wp2
      rw [ld_later 35 (.tmp 39)]
      go_region_held3 (fun W => W.cell? ⟨wr.heap.size, 0, none⟩ = some (.bool s1) ∧ W.cell? ⟨wr.heap.size, 1, none⟩ = some (.slice A1 n1 c1) ∧ W.cell? ⟨wr.heap.size, 2, none⟩ = some (.slice B1 m1 d1)) (go_keep)
        (first | ((go_at_call 29; (with_reducible refine (K3.out _ (by (skip); repeat' (first | (with_reducible exact Below.refl _ _) | (with_reducible assumption) | (with_reducible refine Below.alloc ?_ ?_ _) | (with_reducible refine Below.drew ?_) | (with_reducible refine below_drewN ?_ _) | (with_reducible refine Below.setCell ?_ ?_ _) | (with_reducible refine Below.trans ?_ (Below.mono (by with_reducible assumption) ?_)) | omega | (simp only [ZA, ZS, ZD, ZN]; omega) | go_size))).mono ?_); rintro e w3 ⟨⟨v3, rfl, own3⟩, hb3⟩; have hb3z := Below.size hb3; (try simp only [ZA, ZS, ZD] at hb3z); have hb3c0 := fun o => below_at hb3 (bo) o (by first | omega | (simp only [ZA, ZS, ZD]; omega)); have hb3f0 := fun o => below_fr hb3 (bo) o (by first | omega | (simp only [ZA, ZS, ZD]; omega)); have hb3l0 : bo < (w3).heap.size := (by omega); have hb3c1 := fun o => below_at hb3 (wr.heap.size) o (by first | omega | (simp only [ZA, ZS, ZD]; omega)); have hb3f1 := fun o => below_fr hb3 (wr.heap.size) o (by first | omega | (simp only [ZA, ZS, ZD]; omega)); have hb3l1 : wr.heap.size < (w3).heap.size := (by omega)); obtain ⟨s3, A3, n3, c3', B3, m3, d3, rfl⟩ := own3.form; (have omc := fun o i => below_at ((Below.refl w3.heap.size w3).alloc (Nat.le_refl _) o) (bo) i (by omega)); (have omf := fun o i => below_fr ((Below.refl w3.heap.size w3).alloc (Nat.le_refl _) o) (bo) i (by omega)); (have onc := fun o i => below_at ((Below.refl w3.heap.size w3).alloc (Nat.le_refl _) o) (wr.heap.size) i (by omega)); (have onf := fun o i => below_fr ((Below.refl w3.heap.size w3).alloc (Nat.le_refl _) o) (wr.heap.size) i (by omega))) | (refine step_appR (by rfl) (.tmp 40) (.tmp 44) (by rfl) w.heap.size A9 c9 c (can (wide M y c k)) (by rfl) (by exact HR.out.below (by have z0 := Below.size hb3; (try simp only [ZA, ZS, ZD, ZN] at z0 ⊢; skip); repeat' (first | (with_reducible exact Below.refl _ _) | (with_reducible assumption) | (with_reducible refine Below.alloc ?_ ?_ _) | (with_reducible refine Below.drew ?_) | (with_reducible refine below_drewN ?_ _) | (with_reducible refine Below.setCell ?_ ?_ _) | (with_reducible refine Below.trans ?_ (Below.mono (by with_reducible assumption) ?_)) | omega | (simp only [ZA, ZS, ZD, ZN]; omega) | go_size))) w3.heap.size s3 A3 n3 c3' B3 m3 d3 (canR (y k + 0)) (by rfl) (by simp) (by simp) (by simp) (by exact (own3.alloc _).rs) (by omega) (by simp; omega) ?_; intro g cap w5 hown5 hgrow5 hfr5; have hx5 := fun oo => hgrow5.cell_far ⟨wr.heap.size, oo, none⟩ (by simp; omega) HN9.out; have hy5 := fun oo => hgrow5.cell_far ⟨bo, oo, none⟩ (by simp; omega) HRO.out; have hz5 := fun oo => hgrow5.frozen_far ⟨bo, oo, none⟩ (by simp; omega) HRO.out) | fail)
      all_goals
        have hgw := grown_trans (grown_of_below (show Below wr.heap.size wr _ from (by have z0 := Below.size hb3; (try simp only [ZA, ZS, ZD, ZN] at z0 ⊢; skip); repeat' (first | (with_reducible exact Below.refl _ _) | (with_reducible assumption) | (with_reducible refine Below.alloc ?_ ?_ _) | (with_reducible refine Below.drew ?_) | (with_reducible refine below_drewN ?_ _) | (with_reducible refine Below.setCell ?_ ?_ _) | (with_reducible refine Below.trans ?_ (Below.mono (by with_reducible assumption) ?_)) | omega | (simp only [ZA, ZS, ZD, ZN]; omega) | go_size))) _) hgrow5
        have hown6 := hown5
        have hwk : upd (wide M y c k) c (y k + 0) = wide M y c k := by
          rw [Rat.add_zero]
          funext x
          unfold upd wide
          split
          · rename_i e; rw [e, if_neg (by omega)]
          · rfl
        rw [upd_can, hwk] at hown6
        have hfr6 : (Value.slice A9 c c9).ownBlock = some g ∨ wr.heap.size ≤ g := by
          rcases hfr5 with h5 | h5
          · exact .inl h5
          · simp only [World.size_alloc, World.size_drew] at h5
            exact .inr (by omega)
        have hp := HX.out.put' hlt hgw hown6 hfr6 (by omega)
        rw [upd_self] at hp
        go_wp2
        go_roundw
        case rel =>
          refine ⟨k + 1, by omega, by go_num, hp.1.congr (fun i _ => ?_) (fun _ _ _ _ => rfl), hb.trans hp.2.2, hkp.trans hp.2.1⟩
          unfold upd
          by_cases e : i = k
          · simp [e]
          · by_cases e2 : i < k
            · simp [e, e2, show i < k + 1 by omega]
            · simp [e, e2, show ¬ i < k + 1 by omega]
        case measure => simp [intOf]; omega
    · have hkn : k = n := by omega
      subst hkn
      have own2 := own.congr (len' := fun _ => c + 1) (fun i hi => by simp [hi]) (fun _ _ _ _ => rfl)
      have KR := Lib.hid (reduce_any own2 hn0 (show 0 < c + 1 by omega) (by omega) (by omega) (by omega) HSW.out hL HG.out)
      clear own own2
      go_wp2_with fail
      (with_reducible refine (KR.out).mono ?_)
      rintro e w6 ⟨⟨P, cp, rfl, own6, opv⟩, hb6, hkp6⟩
      have hlp := gj_len_le (n := k) (M := wide M y c) (c + 1)
      have hrow2 : ∀ i, i < k → ∃ g d, MatX w6 w.heap.size bo co k i (some ⟨g, 0, none⟩) d (fun _ => c + 1) (gj k (wide M y c) (c + 1)).1 := fun i hi => own6.row1 hi (by omega)
      have hb6' : Below w.heap.size w w6 := hb.trans hb6
      obtain ⟨pl, hpl⟩ : ∃ pl, pl = (gj k (wide M y c) (c + 1)).2 := ⟨_, rfl⟩
      rw [← hpl] at opv hlp ⊢
      obtain ⟨p, hp⟩ : ∃ p, p = pl.length := ⟨_, rfl⟩
      have hat := fun q (hq : q < pl.length) => opv.at_ hq
      rw [← hp] at hlp ⊢
      have HPL := Lib.hid hpl
      have HP := Lib.hid hp
      have HAT := Lib.hid hat
      clear hpl hp hat opv hb6 hkp6 hrow2 hc0r
      rcases Nat.eq_zero_or_pos p with hp0 | hp0
      · have HE : Hid (codeS k c (wide M y c) = 16) := codeS_16 (by
          rw [← HPL.out]
          have : pl = [] := List.length_eq_zero_iff.1 (by rw [← HP.out]; exact hp0)
          rw [this]; simp) (by rw [← HPL.out, ← HP.out]; omega)
        subst hp0
        have h3 : (0 : Int) < (c : Int) := by omega
        go_wp2
        go_ret2
        exact ⟨retSolve_err HE.out (by omega), hb6'⟩
      · have hlt1 : p - 1 < pl.length := by rw [← HP.out]; omega
        obtain ⟨gP, rfl, hcP⟩ := HAT.out (p - 1) hlt1
        obtain ⟨l, hl9⟩ : ∃ l, l = pl[p - 1] := ⟨_, rfl⟩
        rw [← hl9] at hcP
        have HLA : Hid (pl.getLast? = some l) := by
          show _ = _
          have hq := HP.out
          rw [List.getLast?_eq_getElem?, ← hq, List.getElem?_eq_getElem hlt1, hl9]
        clear hl9 hlt1
        have h1 : (1 : Int) ≤ (p : Int) := by omega
        have h2 : decide ((0 : Int) < (p : Int)) = true := by simp; omega
        have h4 : (p : Int) - 1 < (p : Int) := by omega
        by_cases hlc : l = c
        · subst hlc
          have HE : Hid (codeS k l (wide M y l) = 17) := codeS_17 (by rw [← HPL.out]; exact HLA.out)
          go_wp2
          go_ret2
          exact ⟨retSolve_err HE.out (by omega), hb6'⟩
        · have h5 : ((l : Int) == (c : Int)) = false := beq_eq_false_iff_ne.2 (by omega)
          have h6 : (l == c) = false := beq_eq_false_iff_ne.2 hlc
          have HNL : Hid ((gj k (wide M y c) (c + 1)).2.getLast? ≠ some c) := by
            show _ ≠ _
            rw [← HPL.out, HLA.out]
            intro e; injection e with e; exact hlc e
          clear hlc
          by_cases hpc : p < c
          · have HE : Hid (codeS k c (wide M y c) = 16) := codeS_16 HNL.out (by rw [← HPL.out, ← HP.out]; exact hpc)
            go_wp2
            go_ret2
            exact ⟨retSolve_err HE.out (by omega), hb6'⟩
          · have HE : Hid (codeS k c (wide M y c) = 0) := codeS_0 HNL.out (by rw [← HPL.out, ← HP.out]; exact hpc)
            have h7 : decide ((p : Int) < (c : Int)) = false := by simp; omega
            have h8 : decide (p < c) = false := by simp; omega
            obtain ⟨S, hS⟩ : ∃ S, S = (gj k (wide M y c) (c + 1)).1 := ⟨_, rfl⟩
            rw [← hS] at own6
            have HS := Lib.hid hS
            clear hS
            have hb6z := hb6'.size
            go_wp2_with (at_make; refine wpList_makeR rfl (.tmp 76) (.tmp 76) rfl w.heap.size c (c : Int) (c : Int) (by simp [Act.eval]) (by simp [Act.eval]) rfl rfl (by omega) (by omega) ?_; intro w7 ownx hb7)
            have own7 := own6.below hb7
            have hnb7 : NB w7 bo k w6.heap.size := own6.nb.below hb7 own6.lt
            have hb67 : Below w.heap.size w w7 := hb6'.trans (hb7.mono (by omega))
            clear own6 hb7
            go_loopw [80] (fun ii wr => ∃ i : Nat, i ≤ c ∧ ii = .int .i64 i ∧ MatG wr w.heap.size bo co k (fun _ => c + 1) S ∧ OwR wr w.heap.size (some ⟨w6.heap.size, 0, none⟩) c c (can fun x => if x < i then S x c else 0) ∧ NB wr bo k w6.heap.size ∧ Below w.heap.size w wr) (fun ii _ => c - (intOf ii).toNat)
            case atStart => exact ⟨0, Nat.zero_le _, rfl, own7, ownx.congr (fun x _ => by simp [can]), hnb7, hb67⟩
            case round =>
              obtain ⟨i, hi, rfl, own8, ox, hnb, hb8⟩ := hrel
              by_cases hic : i < c
              · obtain ⟨gI, dI, hXI⟩ := own8.row1 (show i < k by omega) (by omega)
                have hcI := hXI.cell (show i < k by omega)
                try simp only at hcI
                obtain ⟨s2, A2, n2, c2, B2, m2, d2, f0, f1, f2, r2⟩ := (hXI.own (show i < k by omega)).at_ (show c < c + 1 by omega)
                obtain ⟨s3, A3, n3, c3', B3, m3, d3, g0, g1, g2, r3⟩ := ox.at_ hic
                have hfx := ox.frozen
                have hst := ox.set hic r2
                obtain ⟨own9, hk9, hnb9, -⟩ := own8.other ox hnb hst.2
                have HST := Lib.hid hst
                have hb9 : Below w.heap.size w (((wr.setCell ⟨w6.heap.size, i * 3, none⟩ (.bool s2)).setCell ⟨w6.heap.size, i * 3 + 1, none⟩ (.slice A2 n2 c2)).setCell ⟨w6.heap.size, i * 3 + 2, none⟩ (.slice B2 m2 d2)) := hb8.trans (below_of_row hst.2 (fun q hq => by injection hq with hq; omega) hb8.size)
                have hi1 : (i : Int) < (k : Int) := by omega
                have hi2 : (i : Int) < (p : Int) := by omega
                have hi3 : (c : Int) < (c : Int) + 1 := by omega
                have HO := Lib.hid own9
                have HN := Lib.hid hnb9
                have HB9 := Lib.hid hb9
                clear hst own9 hk9 hnb9 hb9 r2 r3 hXI
                go_wp2
                go_roundw
                case rel =>
                  refine ⟨i + 1, by omega, by go_num, HO.out, HST.out.1.congr fun x hx => ?_, HN.out, HB9.out⟩
                  unfold upd can
                  by_cases e : x = i
                  · subst e; simp
                  · by_cases e2 : x < i
                    · simp [e, e2, show x < i + 1 by omega]
                    · simp [e, e2, show ¬ x < i + 1 by omega]
                case measure => simp [intOf]; omega
              · have hic2 : i = c := by omega
                subst hic2
                have ox2 := ox.congr (U := can fun x => S x i) (fun x hx => by simp [can, hx])
                have HO := Lib.hid ox2
                clear ox2 ox
                go_wp2
                go_ret2
                refine ⟨?_, hb8⟩
                unfold RetSolve
                rw [if_pos HE.out, ← HS.out]
                exact ⟨_, _, rfl, HO.out⟩
end Go.Proofs.YtmebdlilbnadgaaGreatDoor
