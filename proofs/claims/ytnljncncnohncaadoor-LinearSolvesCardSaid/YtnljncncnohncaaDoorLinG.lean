/- Contracts of functions and lemmas, used by the proofs of the given statements. No condition beyond those that each lemma names. -/
import Derived.Test.YtnljncncnohncaaDoorJLinE
namespace Go.Proofs.YtnljncncnohncaaDoor
open Go.RowKit
set_option linter.unusedSimpArgs false
set_option linter.unusedVariables false
set_option maxRecDepth 20000
attribute [local irreducible] nv wp win plainB validR valR canR gj findR elim swp gl dts detF low lw
/-! ## package linear: Det -/
/-- a fraction and an error -/
def RetS (b0 : Nat) (q : Rat) (z : Value) (e : Ending) (w' : World) : Prop := ∃ v, e = .returned (.tuple #[v, z]) ∧ RdS w' b0 v (canR q)
theorem RdS.set3 {w : World} {b0 g : Nat} {v : Value} {r : Rw} (h : RdS w b0 v r) (hg : g < w.heap.size) (hn : ¬ WB w b0 g) (u0 u1 u2 : Value) : RdS (((w.setCell ⟨g, 0, none⟩ u0).setCell ⟨g, 1, none⟩ u1).setCell ⟨g, 2, none⟩ u2) b0 v r := by
  have hgr : w.grownBy (((w.setCell ⟨g, 0, none⟩ u0).setCell ⟨g, 1, none⟩ u1).setCell ⟨g, 2, none⟩ u2) (some g) := by
    have h1 : ∀ (w : World) (j : Nat) (u : Value), w.grownBy (w.setCell ⟨g, j, none⟩ u) (some g) := fun w j u =>
      ⟨rfl, rfl, rfl, by simp, fun k _ hk => Below.heap_setCell w ⟨g, j, none⟩ u k (fun e => hk (by rw [e]))⟩
    exact grown_trans (grown_trans (h1 _ _ _) (h1 _ _ _)) (h1 _ _ _)
  exact h.kp ⟨hgr.os, hgr.tape, hgr.output, hgr.size, fun k hk hw => hgr.block k hk (by intro e; injection e with e; subst e; exact hn hw)⟩
/-- no words lie in the variable of the result -/
theorem RdS.narrow {w : World} {b : Nat} {v : Value} {r : Rw} {s : Bool} {A1 B1 : Option Addr} {n1 c1 m1 d1 : Nat} {t : TypeId} {fz : Nat × Nat} (h : RdS w (b + 1) v r) (hc : w.heap[b]? = some (.cells #[.bool s, .slice A1 n1 c1, .slice B1 m1 d1] t fz)) : RdS w b v r := by
  obtain ⟨A, c, B, d, h1, h2, h3, h4, h5, h6, h7, h8⟩ := h
  have key : ∀ (X : Option Addr) (l : List Nat), RdW w w.heap.size X l → BlkIn (WB w (b + 1)) X l.length → BlkIn (WB w b) X l.length := by
    intro X l hr hs hn a ha
    rcases hs hn a ha with h9 | h9
    · rcases Nat.lt_or_ge a.block b with h10 | h10
      · exact .inl h10
      · exfalso
        obtain ⟨b', off, e, _, hcell⟩ := hr.addr hn
        rw [e] at ha
        injection ha with ha
        subst ha
        have hbb : b' = b := by show b' = b; have h9 : b' < b + 1 := h9; have h10 : b ≤ b' := h10; omega
        subst hbb
        have := hcell 0 hn
        rw [cell_of_row w b' _ _ _ _ hc] at this
        rcases off with _ | _ | _ | off <;> simp at this
    · exact .inr h9
  exact ⟨A, c, B, d, h1, h2, h3, h4, h5, h6, key A _ h5 h7, key B _ h6 h8⟩
theorem not_WB {w : World} {b : Nat} {cur : Array Value} {e : TypeId} {fz : Nat × Nat} (h : w.heap[b]? = some (.cells cur e fz)) (he : e ≠ 95) : ¬ WB w b b := by
  rintro (h1 | ⟨cur', fz', h1⟩)
  · omega
  · rw [h] at h1
    injection h1 with h1
    injection h1 with _ h1 _
    exact he h1
theorem gl_0 (L : Nat) : gl L 0 = L := by unfold gl; rfl
set_option maxHeartbeats 8000000 in
theorem det_any {w : World} {n ca L : Nat} {A : Option Addr} {len : Nat → Nat} {R : Nat → Nat → Rw} (h : MatI w w.heap.size A n len R) (hcode : codeM n len = 0) (hsq : len 0 = n)
    (hz : ∀ i k, i < n → k < n → (R i k).2.1.length ≤ L ∧ (R i k).2.2.length ≤ L) (hok : ∀ i k, i < n → k < n → okR (R i k)) (hL : 1 ≤ L) (hg : gl L n ≤ 1000000000) :
    Calls Tryd.prog 18 #[.slice A n ca] w fun e w' => RetS w.heap.size (detF n fun i k => valR (R i k)) .nilIface e w' ∧ Below w.heap.size w w' := by
  obtain ⟨hn0, hl0, hn, hl, hall⟩ := codeM_zero hcode
  have hL2 : L ≤ 1000000000 := by
    have h1 := gl_mono (L := L) (Nat.zero_le n)
    rw [gl_0] at h1
    omega
  obtain ⟨M, hM⟩ : ∃ M : Mf, M = fun i k => valR (R i k) := ⟨_, rfl⟩
  have hsz0 : ∀ a b, a < n → b < n → Sz L (M a b) := fun a b ha hb => by
    rw [hM]; exact Sz_valR (hok a b ha hb) hL (hz a b ha hb).1 (hz a b ha hb).2
  have HSZ := Lib.hid (dts_sz hL hsz0)
  have HGL := Lib.hid (fun k (hk : k ≤ n) => Nat.le_trans (gl_mono (L := L) hk) hg)
  have HGP := Lib.hid (gl_pos hL)
  have K1 := Lib.hid (fun W (hb : Below w.heap.size w W) => check_any (ca := ca) (h.kp (Kp.of_below hb)) (by omega) (fun i hi => by have := hall i hi; omega))
  rw [hcode, errM_0] at K1
  have K2 := Lib.hid (fun W (hb : Below w.heap.size w W) => copied_any (L := L) (ca := ca) (w := W) (by
    obtain ⟨Ar, cp, h1, h2, h3⟩ := h.kp (Kp.of_below hb)
    have hz2 := hb.size
    exact ⟨Ar, cp, h1, fun hn a ha => by have := h2 hn a ha; show a.block < W.heap.size; omega, fun i hi => ⟨(h3 i hi).1, by
      obtain ⟨V, k1, k2, k3⟩ := (h3 i hi).2
      exact ⟨V, fun k hk => (k1 k hk).base hz2, k2, fun hn a ha => by have := k3 hn a ha; show a.block < W.heap.size; omega⟩⟩⟩) (by omega) (fun i hi => by have := hall i hi; omega) (fun i k hi hk => hz i k hi (by have := hall i hi; omega)) hL (by omega))
  rw [← hM] at K2 ⊢
  have K30 : ∀ W, Calls Tryd.prog 37 #[.int .i64 1] W fun e w' => RetQ W.heap.size ((1 : Nat) : Rat) e w' ∧ Below W.heap.size W w' := fun W => ofQ 1 W (by omega)
  have K3 := Lib.hid K30
  clear K30
  obtain ⟨b, off, A0, c0, rfl, hc0, -⟩ := h.at0 hn0
  rw [hsq] at hc0
  have hbb := lt_of_cell hc0
  have HALL := Lib.hid (fun i hi => (hall i hi).trans hsq)
  clear hM hz hok hg hcode hall hsq hsz0 h hl0 hl
  go_enter Tryd.func18, Tryd.ntmps18
  go_wp2_with fail
  (with_reducible refine (K1.out _ (by (skip); repeat' (first | (with_reducible exact Below.refl _ _) | (with_reducible assumption) | (with_reducible refine Below.alloc ?_ ?_ _) | (with_reducible refine Below.drew ?_) | (with_reducible refine below_drewN ?_ _) | (with_reducible refine Below.setCell ?_ ?_ _) | (with_reducible refine Below.trans ?_ (Below.mono (by with_reducible assumption) ?_)) | omega | (simp only [World.size_alloc, World.size_setCell, World.size_drew, size_drewN']; omega) | go_size))).mono ?_)
  rintro e _ ⟨rfl, rfl⟩
  go_wp2_with fail
  (with_reducible refine (K2.out _ (by (skip); repeat' (first | (with_reducible exact Below.refl _ _) | (with_reducible assumption) | (with_reducible refine Below.alloc ?_ ?_ _) | (with_reducible refine Below.drew ?_) | (with_reducible refine below_drewN ?_ _) | (with_reducible refine Below.setCell ?_ ?_ _) | (with_reducible refine Below.trans ?_ (Below.mono (by with_reducible assumption) ?_)) | omega | (simp only [World.size_alloc, World.size_setCell, World.size_drew, size_drewN']; omega) | go_size))).mono ?_)
  rintro e w1 ⟨⟨bo, co, rfl, own0⟩, hb1⟩
  have own1 := own0.congr (len' := fun _ => n) HALL.out (fun _ _ _ _ => rfl)
  clear own0
  simp only [World.size_alloc] at own1
  have hb1z := hb1.size
  simp only [World.size_alloc] at hb1z
  (go_wp2_with fail; (with_reducible refine (K3.out _).mono ?_); rintro e w2 ⟨⟨v0, rfl, own2⟩, hb2⟩; have hb2z := Below.size hb2; (try simp only [World.size_alloc, World.size_setCell, World.size_drew, size_drewN'] at hb2z))
  obtain ⟨s0, A1, n1, c1, B1, m1, d1, rfl⟩ := own2.form
  have e1 : ((1 : Nat) : Rat) = 1 := rfl
  rw [e1] at own2
  clear e1
  have hv0 := OwR.lit (b0 := w.heap.size + 1) (by omega) (own2.rs (b0 := w.heap.size + 1))
  have own3 := own1.below hb2
  have hnb0 := own3.nb
  have hal : Below w2.heap.size w2 (w2.alloc (.cells #[.bool s0, .slice A1 n1 c1, .slice B1 m1 d1] 37)) := (Below.refl _ _).alloc (Nat.le_refl _) _
  have hnb := hnb0.below hal own3.lt
  have own4 := own3.below hal
  have hbR : Below (w.heap.size + 1) (w.alloc (.cells #[.bool false, .slice none 0 0, .slice none 0 0] 37)) (w2.alloc (.cells #[.bool s0, .slice A1 n1 c1, .slice B1 m1 d1] 37)) := (hb1.mono (by simp)).trans ((hb2.mono (by omega)).trans (hal.mono (by omega)))
  clear own1 own2 own3 hnb0 hal hb1
  go_wp2
  go_loopw [32] (fun ii wr => ∃ (k : Nat) (S : Mf) (d : Rat), k ≤ n ∧ ii = .int .i64 k ∧ dts n M k = some (S, d) ∧ MatG wr (w.heap.size + 1) bo co n (fun _ => n) S ∧ OwR wr (w.heap.size + 1) (some ⟨w2.heap.size, 0, none⟩) 1 1 (can fun _ => d) ∧ NB wr bo n w2.heap.size ∧ Below (w.heap.size + 1) (w.alloc (.cells #[.bool false, .slice none 0 0, .slice none 0 0] 37)) wr) (fun ii _ => n - (intOf ii).toNat)
  case atStart => exact ⟨0, M, 1, Nat.zero_le _, rfl, by unfold dts; rfl, own4, hv0, hnb, hbR⟩
  case round =>
    obtain ⟨k, S, d, hk, rfl, hdt, own, hv, hnb, hb⟩ := hrel
    have hbz := hb.size
    simp only [World.size_alloc] at hbz
    have HDT := Lib.hid hdt
    clear hdt
    have hr0 := fun i => below_at hb w.heap.size i (by omega)
    have hrf := fun i => below_fr hb w.heap.size i (by omega)
    have hvl := hv.lt
    by_cases hlt : k < n
    · obtain ⟨hS1, hS2⟩ := HSZ.out k (by omega) S d HDT.out
      have HS1 := Lib.hid hS1
      have HS2 := Lib.hid hS2
      have hGL := HGL.out k (by omega)
      clear hS1 hS2
      obtain ⟨wq, hwq⟩ : ∃ wq, wq = wr := ⟨_, rfl⟩
      subst hwq
      go_wp2
      go_loopw [8] (fun rr wr => ∃ r : Nat, k ≤ r ∧ r ≤ n ∧ rr = .int .i64 r ∧ (∀ i, k ≤ i → i < r → S i k = 0) ∧ Below wq.heap.size wq wr) (fun rr _ => n - (intOf rr).toNat)
      case atStart => exact ⟨k, Nat.le_refl _, by omega, rfl, fun i h1 h2 => by omega, Below.refl _ _⟩
      case round =>
        obtain ⟨r, hr1, hr2, rfl, hzero, hb1⟩ := hrel
        have HZ := Lib.hid hzero
        clear hzero
        have hb1z := hb1.size
        have own1 := own.below hb1
        have hlo := own1.lt
        have hvl1 : w2.heap.size < wr.heap.size := by omega
        have hr1c := fun i => below_at hb1 w.heap.size i (by omega)
        have hr1f := fun i => below_fr hb1 w.heap.size i (by omega)
        by_cases hr3 : r < n
        · obtain ⟨g1, d1, hX1⟩ := own1.row1 hr3 hn0
          have hc1 := hX1.cell hr3
          obtain ⟨s1, A1, n1, c1, B1, m1, e1, f0, f1, f2, r1⟩ := (hX1.own hr3).at_ hlt
          try simp only at hc1
          have hsz := HS1.out r k hr3 hlt
          have K := Lib.hid (signQ (r1.canQ hsz) (HGP.out k) (by omega))
          clear r1 hsz hX1
          by_cases hp : S r k = 0
          · rw [hp, sgnQ_zero.2 rfl] at K
            have HP := Lib.hid hp
            clear hp
            go_wp2_with (first | (go_at_call 21; (with_reducible refine (K.out).mono ?_); rintro e w3 ⟨rfl, hb3⟩; have hb3z := Below.size hb3; (try simp only [World.size_alloc, World.size_setCell, World.size_drew] at hb3z); have hb3c0 := fun o => below_at hb3 (bo) o (by first | omega | (simp only [World.size_alloc, World.size_setCell, World.size_drew]; omega)); have hb3f0 := fun o => below_fr hb3 (bo) o (by first | omega | (simp only [World.size_alloc, World.size_setCell, World.size_drew]; omega)); have hb3l0 : bo < (w3).heap.size := (by omega)) | fail)
            go_roundw
            case rel =>
              refine ⟨r + 1, by omega, by omega, by go_num, fun i h1 h2 => ?_, (by have z0 := Below.size hb1; have z1 := Below.size hb3; (try simp only [World.size_alloc, World.size_setCell, World.size_drew, size_drewN'] at z0 z1 ⊢; skip); repeat' (first | (with_reducible exact Below.refl _ _) | (with_reducible assumption) | (with_reducible refine Below.alloc ?_ ?_ _) | (with_reducible refine Below.drew ?_) | (with_reducible refine below_drewN ?_ _) | (with_reducible refine Below.setCell ?_ ?_ _) | (with_reducible refine Below.trans ?_ (Below.mono (by with_reducible assumption) ?_)) | omega | (simp only [World.size_alloc, World.size_setCell, World.size_drew, size_drewN']; omega) | go_size))⟩
              by_cases e : i = r
              · rw [e]; exact HP.out
              · exact HZ.out i h1 (by omega)
            case measure => simp [intOf]; omega
          · have hq1 := sgn_eq hp
            have hq2 := sgn_ne hp
            have HP := Lib.hid hp
            clear hp
            generalize sgnQ (S r k) = sg at *
            have hr4 : ((r : Int) == (n : Int)) = false := beq_eq_false_iff_ne.2 (by omega)
            have HFR : Hid (findR n S k k = r) := findR_eq hr1 hr2 HZ.out (.inr HP.out)
            go_upto_if 60 with (first | (go_at_call 21; (with_reducible refine (K.out).mono ?_); rintro e w3 ⟨rfl, hb3⟩; have hb3z := Below.size hb3; (try simp only [World.size_alloc, World.size_setCell, World.size_drew] at hb3z); have hb3c0 := fun o => below_at hb3 (bo) o (by first | omega | (simp only [World.size_alloc, World.size_setCell, World.size_drew]; omega)); have hb3f0 := fun o => below_fr hb3 (bo) o (by first | omega | (simp only [World.size_alloc, World.size_setCell, World.size_drew]; omega)); have hb3l0 : bo < (w3).heap.size := (by omega); have hb3c1 := fun o => below_at hb3 (w.heap.size) o (by first | omega | (simp only [World.size_alloc, World.size_setCell, World.size_drew]; omega)); have hb3f1 := fun o => below_fr hb3 (w.heap.size) o (by first | omega | (simp only [World.size_alloc, World.size_setCell, World.size_drew]; omega)); have hb3l1 : w.heap.size < (w3).heap.size := (by omega); have hb3c2 := fun o => below_at hb3 (w2.heap.size) o (by first | omega | (simp only [World.size_alloc, World.size_setCell, World.size_drew]; omega)); have hb3f2 := fun o => below_fr hb3 (w2.heap.size) o (by first | omega | (simp only [World.size_alloc, World.size_setCell, World.size_drew]; omega)); have hb3l2 : w2.heap.size < (w3).heap.size := (by omega)) | fail)
            go_cut [] from 58 to 76 (fun wx => MatG wx (w.heap.size + 1) bo co n (fun _ => n) (swp S k r) ∧ OwR wx (w.heap.size + 1) (some ⟨w2.heap.size, 0, none⟩) 1 1 (can fun _ => if r = k then d else -d) ∧ NB wx bo n w2.heap.size ∧ Below (w.heap.size + 1) (w.alloc (.cells #[.bool false, .slice none 0 0, .slice none 0 0] 37)) wx)
            case first =>
              by_cases hrk : r = k
              ·
                have hrk1 : ((r : Int) == (k : Int)) = true := by simp [hrk]
                have hrk2 : ((r : Int) != (k : Int)) = false := by simp [hrk]
                have HSW : Hid (swp S k r = S) := by show swp S k r = S; rw [hrk, swp_self]
                have HD : Hid ((if r = k then d else -d) = d) := if_pos hrk
                clear hrk
                go_wp2
                have own5 : MatG w3 (w.heap.size + 1) bo co n (fun _ => n) (swp S k r) := by rw [HSW.out]; exact own1.below hb3
                have hv5 : OwR w3 (w.heap.size + 1) (some ⟨w2.heap.size, 0, none⟩) 1 1 (can fun _ => if r = k then d else -d) := by rw [HD.out]; exact (hv.below hb1).below hb3
                have hnb5 : NB w3 bo n w2.heap.size := (hnb.below hb1 own.lt).below hb3 hlo
                have hb5 : Below (w.heap.size + 1) (w.alloc (.cells #[.bool false, .slice none 0 0, .slice none 0 0] 37)) w3 := hb.trans ((hb1.mono (by omega)).trans (hb3.mono (by omega)))
                go_meet
                exact ⟨own5, hv5, hnb5, hb5⟩
              ·
                have hrk1 : ((r : Int) == (k : Int)) = false := beq_eq_false_iff_ne.2 (by omega)
                have hrk2 : ((r : Int) != (k : Int)) = true := by rw [bne_iff_ne]; omega
                have HD : Hid ((if r = k then d else -d) = -d) := if_neg hrk
                clear hrk
                go_wp2
                have own2 := own1.below hb3
                obtain ⟨AA, dA, AB, dB, hcA, hcB, own3, hkp3, hkt3, hb4⟩ := own2.swap hlt hr3 (by omega)
                have hnb3 := (hnb.below hb1 own.lt).below hb3 hlo
                have hnb4 := hnb3.swap hlt hr3 hcA hcB
                have hfz := own2.frozen
                have hv3 := (hv.below hb1).below hb3
                have hi1 : (k : Int) < (n : Int) := by omega
                have hi2 : (r : Int) < (n : Int) := by omega
                have hi3 : (0 : Int) ≤ (k : Int) := by omega
                have hi4 : (0 : Int) ≤ (r : Int) := by omega
                have hc5 : (w3.setCell ⟨bo, k, none⟩ (.slice AB n dB)).cell? ⟨bo, r, none⟩ = some (.slice AB n dB) := cell_set_eq hcA hcB
                clear hc1 f0 f1 f2 hq1 hq2 hr4 hb3c0 hb3f0 hb3c1 hb3f1 hb3c2 hb3f2 hr1c hr1f
                go_region
                obtain ⟨w4, hw4⟩ : ∃ w4, w4 = ((w3.setCell ⟨bo, k, none⟩ (.slice AB n dB)).setCell ⟨bo, r, none⟩ (.slice AA n dA)).drew := ⟨_, rfl⟩
                rw [← hw4]
                have hbd := below_drew ((w3.setCell ⟨bo, k, none⟩ (.slice AB n dB)).setCell ⟨bo, r, none⟩ (.slice AA n dA))
                have own4 : MatG w4 (w.heap.size + 1) bo co n (fun _ => n) (swp S k r) := hw4 ▸ own3.below hbd
                have hv4 : OwR w4 (w.heap.size + 1) (some ⟨w2.heap.size, 0, none⟩) 1 1 (can fun _ => d) := by
                  rw [hw4]
                  refine OwR.below ?_ hbd
                  have hne := hv3.ne_o own2
                  have g1 : ∀ (w : World) (j : Nat) (u : Value), w.grownBy (w.setCell ⟨bo, j, none⟩ u) (some bo) := fun w j u => ⟨rfl, rfl, rfl, by simp, fun k _ hk => Below.heap_setCell w ⟨bo, j, none⟩ u k (fun e => hk (by rw [e]))⟩
                  exact hv3.keep (grown_trans (g1 _ _ _) (g1 _ _ _)) hkp3 hne
                have hnb4' : NB w4 bo n w2.heap.size := by rw [hw4]; exact hnb4.below hbd own3.lt
                have hb4' : Below (w.heap.size + 1) (w.alloc (.cells #[.bool false, .slice none 0 0, .slice none 0 0] 37)) w4 := hw4 ▸ (hb.trans ((hb1.mono (by omega)).trans ((hb3.mono (by omega)).trans (hb4.trans (hbd.mono (by have := hb4.size; omega))))))
                have hlo4 := own4.lt
                have hvl4 := hv4.lt
                obtain ⟨s5, A5, n5, c5, B5, m5, d5, y0, y1, y2, r5⟩ := hv4.var
                have hfz4 := hv4.frozen
                have KN := Lib.hid (neg_any (r5.canQ HS2.out) (HGP.out k) (by omega))
                clear hw4 own3 hkp3 hkt3 hb4 hbd hcA hcB hc5 hfz own2 hnb3 hnb4 hv3 r5
                go_wp2_with (first | ((go_at_call 45; (with_reducible refine (KN.out).mono ?_); rintro e w6 ⟨⟨v6, rfl, own6⟩, hb6⟩; have hb6z := Below.size hb6; (try simp only [World.size_alloc, World.size_setCell, World.size_drew] at hb6z); have hb6c0 := fun o => below_at hb6 (w2.heap.size) o (by first | omega | (simp only [World.size_alloc, World.size_setCell, World.size_drew]; omega)); have hb6f0 := fun o => below_fr hb6 (w2.heap.size) o (by first | omega | (simp only [World.size_alloc, World.size_setCell, World.size_drew]; omega)); have hb6l0 : w2.heap.size < (w6).heap.size := (by omega)); obtain ⟨s6, A6, n6, c6, B6, m6, d6, rfl⟩ := own6.form) | fail)
                have hst := (hv4.below hb6).setVar (own6.rs (b0 := w.heap.size + 1))
                obtain ⟨own7, hkp7, hnb7, hkt7⟩ := (own4.below hb6).other (hv4.below hb6) (hnb4'.below hb6 hlo4) hst.2
                obtain ⟨wx, hw5⟩ : ∃ wx, wx = (((w6.setCell ⟨w2.heap.size, 0, none⟩ (.bool s6)).setCell ⟨w2.heap.size, 1, none⟩ (.slice A6 n6 c6)).setCell ⟨w2.heap.size, 2, none⟩ (.slice B6 m6 d6)) := ⟨_, rfl⟩
                rw [← hw5] at hst own7 hnb7 ⊢
                have own5 := own7
                have hv5 : OwR wx (w.heap.size + 1) (some ⟨w2.heap.size, 0, none⟩) 1 1 (can fun _ => if r = k then d else -d) := by rw [HD.out]; exact hst.1
                have hnb5 := hnb7
                have hb5 : Below (w.heap.size + 1) (w.alloc (.cells #[.bool false, .slice none 0 0, .slice none 0 0] 37)) wx := hb4'.trans ((hb6.mono (by omega)).trans (below_of_row hst.2 (fun q hq => by injection hq with hq; omega) (by have := hb6.size; omega)))
                go_meet
                exact ⟨own5, hv5, hnb5, hb5⟩
            case rest =>
              obtain ⟨own5, hv5, hnb5, hb5⟩ := hcut
              have HSW : Hid (∀ a b, a < n → b < n → Sz (gl L k) (swp S k r a b)) := swp_sz HS1.out hlt hr3
              have HPV : Hid (swp S k r k k ≠ 0) := by show swp S k r k k ≠ 0; unfold swp; simp; exact HP.out
              have HDT2 : Hid (dts n M (k + 1) = some (low (swp S k r) k, (if r = k then d else -d) * swp S k r k k)) := dts_yes HDT.out HFR.out hr3
              have HD1 : Hid (Sz (gl L k) (if r = k then d else -d)) := by show Sz _ _; split; exact HS2.out; exact HS2.out.neg
              obtain ⟨S1, hS1⟩ : ∃ S1, S1 = swp S k r := ⟨_, rfl⟩
              rw [← hS1] at own5 HSW HPV HDT2
              obtain ⟨d1', hd1'⟩ : ∃ d1' : Rat, d1' = if r = k then d else -d := ⟨_, rfl⟩
              rw [← hd1'] at hv5 HD1 HDT2
              clear hS1 hd1' HP HZ HFR HDT K HS1 HS2 hr1 hr2
              try clear hq1 hq2 hr4 hc1 f0 f1 f2
              try clear hr1c hr1f
              clear own1 own hv hnb hb hb1 hb1z hlo hr0 hrf hvl hvl1 hbz
              have hlo5 := own5.lt
              have hvl5 := hv5.lt
              have hz5 := hb5.size
              simp only [World.size_alloc] at hz5
              obtain ⟨gK, dK, hXK⟩ := own5.row1 hlt hn0
              have hcK := hXK.cell hlt
              try simp only at hcK
              obtain ⟨s7, A7, n7, c7, B7, m7, e7, f0, f1, f2, rk⟩ := (hXK.own hlt).at_ hlt
              obtain ⟨s8, A8, n8, c8, B8, m8, e8, y0, y1, y2, ry⟩ := hv5.var
              have hfz5 := hv5.frozen
              have hlgK := (hXK.own hlt).lt
              have hne1 : w2.heap.size ≠ gK := hnb5.ne hlt hcK
              have hne2 : w2.heap.size ≠ bo := hv5.ne_o own5
              have nx1 : ¬ (gK = w2.heap.size) := fun e => hne1 e.symm
              have nx2 : ¬ (bo = w2.heap.size) := fun e => hne2 e.symm
              have hi1 : (k : Int) < (n : Int) := by omega
              have hi0 : (0 : Int) ≤ (k : Int) := by omega
              have KM := Lib.hid (fun W (hb : Below wc.heap.size wc W) => mulQ (((ry.canQ HD1.out)).below hb) ((rk.canQ (HSW.out k k hlt hlt)).below hb) (HGP.out k) (by omega))
              have HSM : Hid (Sz (gl L k + gl L k) (d1' * S1 k k)) := HD1.out.mul (HSW.out k k hlt hlt) (HGP.out k)
              clear rk ry hXK
              go_wp2
              rw [ld_later 37 (.tmp 6)]
              go_region_held3 (fun W => W.cell? ⟨bo, k, none⟩ = some (.slice (some ⟨gK, 0, none⟩) n dK) ∧ W.cell? ⟨gK, k * 3, none⟩ = some (.bool s7) ∧ W.cell? ⟨gK, k * 3 + 1, none⟩ = some (.slice A7 n7 c7) ∧ W.cell? ⟨gK, k * 3 + 2, none⟩ = some (.slice B7 m7 e7)) (go_keep)
                (first | ((go_at_call 27; (with_reducible refine (KM.out _ (by (skip); repeat' (first | (with_reducible exact Below.refl _ _) | (with_reducible assumption) | (with_reducible refine Below.alloc ?_ ?_ _) | (with_reducible refine Below.drew ?_) | (with_reducible refine below_drewN ?_ _) | (with_reducible refine Below.setCell ?_ ?_ _) | (with_reducible refine Below.trans ?_ (Below.mono (by with_reducible assumption) ?_)) | omega | (simp only [World.size_alloc, World.size_setCell, World.size_drew, size_drewN']; omega) | go_size))).mono ?_); rintro e w7 ⟨⟨v7, rfl, own7⟩, hb7⟩; have hb7z := Below.size hb7; (try simp only [World.size_alloc, World.size_setCell, World.size_drew] at hb7z); have hb7c0 := fun o => below_at hb7 (bo) o (by first | omega | (simp only [World.size_alloc, World.size_setCell, World.size_drew]; omega)); have hb7f0 := fun o => below_fr hb7 (bo) o (by first | omega | (simp only [World.size_alloc, World.size_setCell, World.size_drew]; omega)); have hb7l0 : bo < (w7).heap.size := (by omega); have hb7c1 := fun o => below_at hb7 (gK) o (by first | omega | (simp only [World.size_alloc, World.size_setCell, World.size_drew]; omega)); have hb7f1 := fun o => below_fr hb7 (gK) o (by first | omega | (simp only [World.size_alloc, World.size_setCell, World.size_drew]; omega)); have hb7l1 : gK < (w7).heap.size := (by omega); have hb7c2 := fun o => below_at hb7 (w2.heap.size) o (by first | omega | (simp only [World.size_alloc, World.size_setCell, World.size_drew]; omega)); have hb7f2 := fun o => below_fr hb7 (w2.heap.size) o (by first | omega | (simp only [World.size_alloc, World.size_setCell, World.size_drew]; omega)); have hb7l2 : w2.heap.size < (w7).heap.size := (by omega)); obtain ⟨s9, A9, n9, c9, B9, m9, e9, rfl⟩ := own7.form) | fail)
              all_goals
                have hb57 : Below wc.heap.size wc w7 := (by have z0 := Below.size hb7; (try simp only [World.size_alloc, World.size_setCell, World.size_drew, size_drewN'] at z0 ⊢; skip); repeat' (first | (with_reducible exact Below.refl _ _) | (with_reducible assumption) | (with_reducible refine Below.alloc ?_ ?_ _) | (with_reducible refine Below.drew ?_) | (with_reducible refine below_drewN ?_ _) | (with_reducible refine Below.setCell ?_ ?_ _) | (with_reducible refine Below.trans ?_ (Below.mono (by with_reducible assumption) ?_)) | omega | (simp only [World.size_alloc, World.size_setCell, World.size_drew, size_drewN']; omega) | go_size))
                have hst := (hv5.below hb57).setVar (own7.rs (b0 := w.heap.size + 1))
                obtain ⟨own8, hkp8, hnb8, hkt8⟩ := (own5.below hb57).other (hv5.below hb57) (hnb5.below hb57 hlo5) hst.2
                obtain ⟨w8, hw8⟩ : ∃ w8, w8 = (((w7.setCell ⟨w2.heap.size, 0, none⟩ (.bool s9)).setCell ⟨w2.heap.size, 1, none⟩ (.slice A9 n9 c9)).setCell ⟨w2.heap.size, 2, none⟩ (.slice B9 m9 e9)) := ⟨_, rfl⟩
                rw [← hw8] at hst own8 hnb8 ⊢
                have hv8 := hst.1
                have hb8 : Below (w.heap.size + 1) (w.alloc (.cells #[.bool false, .slice none 0 0, .slice none 0 0] 37)) w8 := hb5.trans ((hb57.mono (by omega)).trans (below_of_row hst.2 (fun q hq => by injection hq with hq; omega) (by have := hb57.size; omega)))
                clear hw8 hst hkp8 hkt8 own7 hb57 hb7 hb7c0 hb7f0 hb7c1 hb7f1 hb7c2 hb7f2 own5 hv5 hnb5 hb5 hfz5 y0 y1 y2 f0 f1 f2 hcK KM hne1 hne2 nx1 nx2 hlo5 hvl5 hz5 hlgK
                go_wp2
                go_loopw [9] (fun ii wr => ∃ i : Nat, k + 1 ≤ i ∧ i ≤ n ∧ ii = .int .i64 i ∧ MatG wr (w.heap.size + 1) bo co n (fun _ => n) (lw S1 k i) ∧ OwR wr (w.heap.size + 1) (some ⟨w2.heap.size, 0, none⟩) 1 1 (can fun _ => d1' * S1 k k) ∧ NB wr bo n w2.heap.size ∧ Below (w.heap.size + 1) (w.alloc (.cells #[.bool false, .slice none 0 0, .slice none 0 0] 37)) wr) (fun ii _ => n - (intOf ii).toNat)
                case atStart => exact ⟨k + 1, Nat.le_refl _, by omega, by go_num, by rw [lw_start]; exact own8, hv8, hnb8, hb8⟩
                case round =>
                  obtain ⟨i, hi1', hi2', rfl, own, hv, hnb, hb⟩ := hrel
                  have hz9 := hb.size
                  simp only [World.size_alloc] at hz9
                  by_cases hin : i < n
                  · obtain ⟨gI, dI, gB, dB', hgne, hXI, hXB⟩ := own.rows2 hin hlt (show i ≠ k by omega) hn0
                    have hcI := hXI.cell hin
                    have hcB := hXB.cell hlt
                    try simp only at hcI hcB
                    have rI := hXI.own hin
                    have rB := hXB.own hlt
                    rw [lw_row] at rI
                    rw [lw_piv] at rB
                    obtain ⟨s3, A3, n3, c3', B3, m3, e3, x0, x1, x2, rk3⟩ := rI.at_ hlt
                    obtain ⟨s4, A4, n4, c4, B4, m4, e4, z0, z1, z2, rk4⟩ := rB.at_ hlt
                    have hgI := hnb.ne hin hcI
                    have hgB := hnb.ne hlt hcB
                    have hoI : gI ≠ bo := hXI.ne hin rfl
                    have hlo9 := own.lt
                    have hlI := rI.lt
                    have hlB := rB.lt
                    have hlv := hv.lt
                    have KD := Lib.hid (fun W (hb : Below wr.heap.size wr W) => divQ ((rk3.canQ (HSW.out i k hin hlt)).below hb) ((rk4.canQ (HSW.out k k hlt hlt)).below hb) (HGP.out k) (by omega) HPV.out)
                    have HSF : Hid (Sz (gl L k + gl L k) (S1 i k / S1 k k)) := (HSW.out i k hin hlt).div (HSW.out k k hlt hlt) (HGP.out k)
                    have KL := Lib.hid (fun W v (hb : Below wr.heap.size wr W) (hv : RdS W (w.heap.size + 1) v (canR (S1 i k / S1 k k))) => less_any (rI.below hb) (rB.below hb) hgne hv HSF.out (fun b hb => (HSW.out i b hin hb).more (show gl L k ≤ gl L k + gl L k by omega)) (fun b hb => (HSW.out k b hlt hb).more (show gl L k ≤ gl L k + gl L k by omega)) (by have := HGP.out k; omega) (by omega) (by omega))
                    have HXI := Lib.hid hXI
                    have HRI := Lib.hid rI
                    clear rI rB rk3 rk4 hXI hXB
                    have hj0 : (0 : Int) ≤ (i : Int) := by omega
                    have hj1 : (i : Int) < (n : Int) := by omega
                    have hoI2 : ¬ (bo = gI) := fun e => hoI e.symm
                    have hgI2 : ¬ (gI = w2.heap.size) := fun e => hgI e.symm
                    have nn1 : ¬ (bo = wr.heap.size) := by omega
                    have nn2 : ¬ (wr.heap.size = bo) := by omega
                    have nn3 : ¬ (gI = wr.heap.size) := by omega
                    have nn4 : ¬ (wr.heap.size = gI) := by omega
                    have nn5 : ¬ (gB = wr.heap.size) := by omega
                    have nn6 : ¬ (wr.heap.size = gB) := by omega
                    go_wp2
                    go_region_held3 (fun W => W.cell? ⟨bo, i, none⟩ = some (.slice (some ⟨gI, 0, none⟩) n dI) ∧ W.cell? ⟨bo, k, none⟩ = some (.slice (some ⟨gB, 0, none⟩) n dB') ∧ W.cell? ⟨gI, k * 3, none⟩ = some (.bool s3) ∧ W.cell? ⟨gI, k * 3 + 1, none⟩ = some (.slice A3 n3 c3') ∧ W.cell? ⟨gI, k * 3 + 2, none⟩ = some (.slice B3 m3 e3) ∧ W.cell? ⟨gB, k * 3, none⟩ = some (.bool s4) ∧ W.cell? ⟨gB, k * 3 + 1, none⟩ = some (.slice A4 n4 c4) ∧ W.cell? ⟨gB, k * 3 + 2, none⟩ = some (.slice B4 m4 e4)) (go_keep)
                      (first | ((go_at_call 46; (with_reducible refine (KD.out _ (by (skip); repeat' (first | (with_reducible exact Below.refl _ _) | (with_reducible assumption) | (with_reducible refine Below.alloc ?_ ?_ _) | (with_reducible refine Below.drew ?_) | (with_reducible refine below_drewN ?_ _) | (with_reducible refine Below.setCell ?_ ?_ _) | (with_reducible refine Below.trans ?_ (Below.mono (by with_reducible assumption) ?_)) | omega | (simp only [World.size_alloc, World.size_setCell, World.size_drew, size_drewN']; omega) | go_size))).mono ?_); rintro e w4 ⟨⟨v4, rfl, own4⟩, hb4⟩; have hb4z := Below.size hb4; (try simp only [World.size_alloc, World.size_setCell, World.size_drew] at hb4z); have hb4c0 := fun o => below_at hb4 (bo) o (by first | omega | (simp only [World.size_alloc, World.size_setCell, World.size_drew]; omega)); have hb4f0 := fun o => below_fr hb4 (bo) o (by first | omega | (simp only [World.size_alloc, World.size_setCell, World.size_drew]; omega)); have hb4l0 : bo < (w4).heap.size := (by omega); have hb4c1 := fun o => below_at hb4 (gI) o (by first | omega | (simp only [World.size_alloc, World.size_setCell, World.size_drew]; omega)); have hb4f1 := fun o => below_fr hb4 (gI) o (by first | omega | (simp only [World.size_alloc, World.size_setCell, World.size_drew]; omega)); have hb4l1 : gI < (w4).heap.size := (by omega); have hb4c2 := fun o => below_at hb4 (gB) o (by first | omega | (simp only [World.size_alloc, World.size_setCell, World.size_drew]; omega)); have hb4f2 := fun o => below_fr hb4 (gB) o (by first | omega | (simp only [World.size_alloc, World.size_setCell, World.size_drew]; omega)); have hb4l2 : gB < (w4).heap.size := (by omega); have hb4c3 := fun o => below_at hb4 (wr.heap.size) o (by first | omega | (simp only [World.size_alloc, World.size_setCell, World.size_drew]; omega)); have hb4f3 := fun o => below_fr hb4 (wr.heap.size) o (by first | omega | (simp only [World.size_alloc, World.size_setCell, World.size_drew]; omega)); have hb4l3 : wr.heap.size < (w4).heap.size := (by omega)); obtain ⟨s5, A5, n5, c5, B5, m5, e5, rfl⟩ := own4.form) | ((go_at_call 46; (with_reducible refine (KD.out _ (by (skip); repeat' (first | (with_reducible exact Below.refl _ _) | (with_reducible assumption) | (with_reducible refine Below.alloc ?_ ?_ _) | (with_reducible refine Below.drew ?_) | (with_reducible refine below_drewN ?_ _) | (with_reducible refine Below.setCell ?_ ?_ _) | (with_reducible refine Below.trans ?_ (Below.mono (by with_reducible assumption) ?_)) | omega | (simp only [World.size_alloc, World.size_setCell, World.size_drew, size_drewN']; omega) | go_size))).mono ?_); rintro e w4 ⟨⟨v4, rfl, own4⟩, hb4⟩; have hb4z := Below.size hb4; (try simp only [World.size_alloc, World.size_setCell, World.size_drew] at hb4z); have hb4c0 := fun o => below_at hb4 (bo) o (by first | omega | (simp only [World.size_alloc, World.size_setCell, World.size_drew]; omega)); have hb4f0 := fun o => below_fr hb4 (bo) o (by first | omega | (simp only [World.size_alloc, World.size_setCell, World.size_drew]; omega)); have hb4l0 : bo < (w4).heap.size := (by omega); have hb4c1 := fun o => below_at hb4 (gI) o (by first | omega | (simp only [World.size_alloc, World.size_setCell, World.size_drew]; omega)); have hb4f1 := fun o => below_fr hb4 (gI) o (by first | omega | (simp only [World.size_alloc, World.size_setCell, World.size_drew]; omega)); have hb4l1 : gI < (w4).heap.size := (by omega); have hb4c2 := fun o => below_at hb4 (gB) o (by first | omega | (simp only [World.size_alloc, World.size_setCell, World.size_drew]; omega)); have hb4f2 := fun o => below_fr hb4 (gB) o (by first | omega | (simp only [World.size_alloc, World.size_setCell, World.size_drew]; omega)); have hb4l2 : gB < (w4).heap.size := (by omega)); obtain ⟨s5, A5, n5, c5, B5, m5, e5, rfl⟩ := own4.form) | fail)
                    all_goals (first
                      | (obtain ⟨w8, hw8⟩ : ∃ w8, w8 = (((w4.setCell ⟨wr.heap.size, 0, none⟩ (.bool s5)).setCell ⟨wr.heap.size, 1, none⟩ (.slice A5 n5 c5)).setCell ⟨wr.heap.size, 2, none⟩ (.slice B5 m5 e5)) := ⟨_, rfl⟩
                         rw [← hw8]
                         have hbA : Below (wr.heap.size + 1) (wr.alloc (.cells #[.bool false, .slice none 0 0, .slice none 0 0] 37)) w4 := ⟨hb4.os, hb4.tape, hb4.output, hb4.size, fun q hq => hb4.block q (by simp; omega)⟩
                         have hty := hbA.block wr.heap.size (by omega)
                         rw [heap_alloc_new] at hty
                         have hsz4 := hbA.size
                         simp only [World.size_alloc] at hsz4
                         have fc : ∀ (q : Nat) (u : Value), #[Value.bool false, .slice none 0 0, .slice none 0 0][q]? = some u → w4.cell? ⟨wr.heap.size, q, none⟩ = some u := fun q u hu => by rw [cell_of_row w4 _ _ _ _ _ hty]; exact hu
                         have hvar := OwR.setVar (bd := wr.heap.size) (b0 := w.heap.size + 1) (R := fun _ => canR 0) ⟨fun _ => zr, fun _ _ => RdS.zero _ _, ⟨rfl, .inr ⟨wr.heap.size, 1, _, rfl, by omega, hty, by omega, by unfold maxLen; omega, rfl, rfl⟩⟩⟩ (own4.rs (b0 := w.heap.size + 1))
                         rw [← hw8] at hvar
                         obtain ⟨s6, A6, n6, c6, B6, m6, e6, fb0, fb1, fb2, rf⟩ := hvar.1.var
                         have hb8 : Below wr.heap.size wr w8 := by
                           rw [hw8]; exact (by have z0 := Below.size hb4; (try simp only [World.size_alloc, World.size_setCell, World.size_drew, size_drewN'] at z0 ⊢; skip); repeat' (first | (with_reducible exact Below.refl _ _) | (with_reducible assumption) | (with_reducible refine Below.alloc ?_ ?_ _) | (with_reducible refine Below.drew ?_) | (with_reducible refine below_drewN ?_ _) | (with_reducible refine Below.setCell ?_ ?_ _) | (with_reducible refine Below.trans ?_ (Below.mono (by with_reducible assumption) ?_)) | omega | (simp only [World.size_alloc, World.size_setCell, World.size_drew, size_drewN']; omega) | go_size))
                         have hBI : wr.heap.size ≠ gI := by omega
                         have hBF := hvar.1.lt
                         have hx8 := fun oo => below_at hb8 bo oo hlo9
                         have hz8 := hb8.size
                         clear hw8 hvar hb4 own4
                         try clear hb4c0 hb4f0 hb4c1 hb4f1 hb4c2 hb4f2
                         try clear hb4c3 hb4f3
                         go_wp2
                         go_region_held3 (fun W => W.cell? ⟨bo, i, none⟩ = some (.slice (some ⟨gI, 0, none⟩) n dI) ∧ W.cell? ⟨bo, k, none⟩ = some (.slice (some ⟨gB, 0, none⟩) n dB') ∧ W.cell? ⟨wr.heap.size, 0, none⟩ = some (.bool s6) ∧ W.cell? ⟨wr.heap.size, 1, none⟩ = some (.slice A6 n6 c6) ∧ W.cell? ⟨wr.heap.size, 2, none⟩ = some (.slice B6 m6 e6)) (go_keep)
                           (first | (go_at_call 47; (with_reducible refine (KL.out _ _ (by have z0 := Below.size hb8; (try simp only [World.size_alloc, World.size_setCell, World.size_drew, size_drewN'] at z0 ⊢; skip); repeat' (first | (with_reducible exact Below.refl _ _) | (with_reducible assumption) | (with_reducible refine Below.alloc ?_ ?_ _) | (with_reducible refine Below.drew ?_) | (with_reducible refine below_drewN ?_ _) | (with_reducible refine Below.setCell ?_ ?_ _) | (with_reducible refine Below.trans ?_ (Below.mono (by with_reducible assumption) ?_)) | omega | (simp only [World.size_alloc, World.size_setCell, World.size_drew, size_drewN']; omega) | go_size)) (rf.kp (Kp.of_below (by (skip); repeat' (first | (with_reducible exact Below.refl _ _) | (with_reducible assumption) | (with_reducible refine Below.alloc ?_ ?_ _) | (with_reducible refine Below.drew ?_) | (with_reducible refine below_drewN ?_ _) | (with_reducible refine Below.setCell ?_ ?_ _) | (with_reducible refine Below.trans ?_ (Below.mono (by with_reducible assumption) ?_)) | omega | (simp only [World.size_alloc, World.size_setCell, World.size_drew, size_drewN']; omega) | go_size))))).mono ?_); rintro e w9 ⟨rfl, hown9, hgr9⟩; have hx9 := fun oo => hgr9.cell_far ⟨bo, oo, none⟩ (by first | omega | (simp; omega)) (by intro e9; injection e9 with e9; exact hoI e9.symm); have hy9 := fun oo => hgr9.cell_far ⟨wr.heap.size, oo, none⟩ (by first | omega | (simp; omega)) (by intro e9; injection e9 with e9; exact hBI e9)) | fail)
                         all_goals
                           have hgw := grown_trans (grown_of_below (show Below wr.heap.size wr _ from (by have z0 := Below.size hb8; (try simp only [World.size_alloc, World.size_setCell, World.size_drew, size_drewN'] at z0 ⊢; skip); repeat' (first | (with_reducible exact Below.refl _ _) | (with_reducible assumption) | (with_reducible refine Below.alloc ?_ ?_ _) | (with_reducible refine Below.drew ?_) | (with_reducible refine below_drewN ?_ _) | (with_reducible refine Below.setCell ?_ ?_ _) | (with_reducible refine Below.trans ?_ (Below.mono (by with_reducible assumption) ?_)) | omega | (simp only [World.size_alloc, World.size_setCell, World.size_drew, size_drewN']; omega) | go_size))) _) hgr9
                           obtain ⟨hX9, hk9, hb9⟩ := HXI.out.same hin hgw hown9 (by omega)
                           go_wp2
                           go_roundw
                           case rel =>
                             refine ⟨i + 1, by omega, by omega, by go_num, hX9.mg.congr (fun _ _ => rfl) (fun x b _ _ => ?_), hv.keep hgw hk9 hgI, hnb.keep fun x _ => grown_at hgw x hlo9 hoI2, hb.trans hb9⟩
                             have := lw_step (S := S1) (k := k) (i := i) (by omega) x b
                             unfold upd
                             rw [← this]
                             by_cases e : x = i
                             · rw [if_pos e, if_pos e]
                             · rw [if_neg e, if_neg e]
                           case measure => simp [intOf]; omega)
                      | (obtain ⟨w8, hw8⟩ : ∃ w8, w8 = w4.alloc (.cells #[.bool s5, .slice A5 n5 c5, .slice B5 m5 e5] 37) := ⟨_, rfl⟩
                         rw [← hw8]
                         have hz4 := hb4.size
                         try simp only [World.size_drew] at hz4
                         have hvar0 := OwR.lit (b0 := w.heap.size + 1) (w := w4) (by omega) (own4.rs (b0 := w.heap.size + 1))
                         have hvar := And.intro hvar0 trivial
                         clear hvar0
                         rw [← hw8] at hvar
                         obtain ⟨s6, A6, n6, c6, B6, m6, e6, fb0, fb1, fb2, rf⟩ := hvar.1.var
                         have hb8 : Below wr.heap.size wr w8 := by
                           rw [hw8]; exact (by have z0 := Below.size hb4; (try simp only [World.size_alloc, World.size_setCell, World.size_drew, size_drewN'] at z0 ⊢; skip); repeat' (first | (with_reducible exact Below.refl _ _) | (with_reducible assumption) | (with_reducible refine Below.alloc ?_ ?_ _) | (with_reducible refine Below.drew ?_) | (with_reducible refine below_drewN ?_ _) | (with_reducible refine Below.setCell ?_ ?_ _) | (with_reducible refine Below.trans ?_ (Below.mono (by with_reducible assumption) ?_)) | omega | (simp only [World.size_alloc, World.size_setCell, World.size_drew, size_drewN']; omega) | go_size))
                         have hBI : w4.heap.size ≠ gI := by omega
                         have hBF := hvar.1.lt
                         have hx8 := fun oo => below_at hb8 bo oo hlo9
                         have hz8 := hb8.size
                         clear hw8 hvar hb4 own4
                         try clear hb4c0 hb4f0 hb4c1 hb4f1 hb4c2 hb4f2
                         try clear hb4c3 hb4f3
                         go_wp2
                         go_region_held3 (fun W => W.cell? ⟨bo, i, none⟩ = some (.slice (some ⟨gI, 0, none⟩) n dI) ∧ W.cell? ⟨bo, k, none⟩ = some (.slice (some ⟨gB, 0, none⟩) n dB') ∧ W.cell? ⟨w4.heap.size, 0, none⟩ = some (.bool s6) ∧ W.cell? ⟨w4.heap.size, 1, none⟩ = some (.slice A6 n6 c6) ∧ W.cell? ⟨w4.heap.size, 2, none⟩ = some (.slice B6 m6 e6)) (go_keep)
                           (first | (go_at_call 47; (with_reducible refine (KL.out _ _ (by have z0 := Below.size hb8; (try simp only [World.size_alloc, World.size_setCell, World.size_drew, size_drewN'] at z0 ⊢; skip); repeat' (first | (with_reducible exact Below.refl _ _) | (with_reducible assumption) | (with_reducible refine Below.alloc ?_ ?_ _) | (with_reducible refine Below.drew ?_) | (with_reducible refine below_drewN ?_ _) | (with_reducible refine Below.setCell ?_ ?_ _) | (with_reducible refine Below.trans ?_ (Below.mono (by with_reducible assumption) ?_)) | omega | (simp only [World.size_alloc, World.size_setCell, World.size_drew, size_drewN']; omega) | go_size)) (rf.kp (Kp.of_below (by (skip); repeat' (first | (with_reducible exact Below.refl _ _) | (with_reducible assumption) | (with_reducible refine Below.alloc ?_ ?_ _) | (with_reducible refine Below.drew ?_) | (with_reducible refine below_drewN ?_ _) | (with_reducible refine Below.setCell ?_ ?_ _) | (with_reducible refine Below.trans ?_ (Below.mono (by with_reducible assumption) ?_)) | omega | (simp only [World.size_alloc, World.size_setCell, World.size_drew, size_drewN']; omega) | go_size))))).mono ?_); rintro e w9 ⟨rfl, hown9, hgr9⟩; have hx9 := fun oo => hgr9.cell_far ⟨bo, oo, none⟩ (by first | omega | (simp; omega)) (by intro e9; injection e9 with e9; exact hoI e9.symm); have hy9 := fun oo => hgr9.cell_far ⟨w4.heap.size, oo, none⟩ (by first | omega | (simp; omega)) (by intro e9; injection e9 with e9; exact hBI e9)) | fail)
                         all_goals
                           have hgw := grown_trans (grown_of_below (show Below wr.heap.size wr _ from (by have z0 := Below.size hb8; (try simp only [World.size_alloc, World.size_setCell, World.size_drew, size_drewN'] at z0 ⊢; skip); repeat' (first | (with_reducible exact Below.refl _ _) | (with_reducible assumption) | (with_reducible refine Below.alloc ?_ ?_ _) | (with_reducible refine Below.drew ?_) | (with_reducible refine below_drewN ?_ _) | (with_reducible refine Below.setCell ?_ ?_ _) | (with_reducible refine Below.trans ?_ (Below.mono (by with_reducible assumption) ?_)) | omega | (simp only [World.size_alloc, World.size_setCell, World.size_drew, size_drewN']; omega) | go_size))) _) hgr9
                           obtain ⟨hX9, hk9, hb9⟩ := HXI.out.same hin hgw hown9 (by omega)
                           go_wp2
                           go_roundw
                           case rel =>
                             refine ⟨i + 1, by omega, by omega, by go_num, hX9.mg.congr (fun _ _ => rfl) (fun x b _ _ => ?_), hv.keep hgw hk9 hgI, hnb.keep fun x _ => grown_at hgw x hlo9 hoI2, hb.trans hb9⟩
                             have := lw_step (S := S1) (k := k) (i := i) (by omega) x b
                             unfold upd
                             rw [← this]
                             by_cases e : x = i
                             · rw [if_pos e, if_pos e]
                             · rw [if_neg e, if_neg e]
                           case measure => simp [intOf]; omega))
                  · have hin2 : i = n := by omega
                    subst hin2
                    go_wp2
                    go_roundw
                    case rel => exact ⟨k + 1, low S1 k, d1' * S1 k k, by omega, by go_num, HDT2.out, own.congr (fun _ _ => rfl) (fun x b hx _ => lw_end hx), hv, hnb, hb⟩
                    case measure => simp [intOf]; omega
        · have : r = n := by omega
          subst this
          have HE : Hid (detF r M = 0) := dts_no HDT.out hlt (findR_eq hr1 (Nat.le_refl _) HZ.out (.inl rfl))
          have hrR : ∀ i, wr.cell? ⟨w.heap.size, i, none⟩ = (w.alloc (.cells #[.bool false, .slice none 0 0, .slice none 0 0] 37)).cell? ⟨w.heap.size, i, none⟩ := fun i => (hr1c i).trans (hr0 i)
          go_wp2
          refine bodyPost_ret (v := (.tuple #[zr, .nilIface])) (by simp [results, Tryd.results18, go_sem, hr1c, hr0]) rfl ?_
          rw [HE.out]
          exact ⟨⟨_, rfl, RdS.zero _ _⟩, ((((((Below.refl w.heap.size w).alloc (Nat.le_refl _) _).trans ((hb.mono (by omega)).trans (hb1.mono (by omega)))).setCell (by simp) _).setCell (by simp) _).setCell (by simp) _)⟩
    · have hkn : k = n := by omega
      subst hkn
      have HE : Hid (detF k M = d) := dts_end HDT.out
      have hrh := hb.block w.heap.size (by omega)
      rw [heap_alloc_new] at hrh
      obtain ⟨s5, A5, n5, c5, B5, m5, d5, y0, y1, y2, r5⟩ := hv.var
      have R5 := Lib.hid (r5.narrow hrh)
      have HNW := Lib.hid (not_WB hrh (by decide))
      clear r5 hrh
      go_wp2
      refine bodyPost_ret (v := (.tuple #[rv s5 A5 n5 c5 B5 m5 d5, .nilIface])) (by simp [results, Tryd.results18, go_sem, hr0]) rfl ?_
      rw [HE.out]
      exact ⟨⟨_, rfl, R5.out.set3 (by omega) HNW.out _ _ _⟩, (((((((Below.refl w.heap.size w).alloc (Nat.le_refl _) _).trans (hb.mono (by omega))).setCell (by simp) _).setCell (by simp) _).setCell (by simp) _))⟩
end Go.Proofs.YtnljncncnohncaaDoor
