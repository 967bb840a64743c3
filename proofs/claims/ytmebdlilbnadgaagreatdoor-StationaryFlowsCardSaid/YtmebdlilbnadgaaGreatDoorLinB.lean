/- Contracts of functions and lemmas, used by the proofs of the given statements. No condition beyond those that each lemma names. -/
import Derived.Test.YtmebdlilbnadgaaGreatDoorLinMk
import Derived.Test.YtmebdlilbnadgaaGreatDoorLinA
namespace Go.Proofs.YtmebdlilbnadgaaGreatDoor
open Go.RowKit
set_option linter.unusedSimpArgs false
set_option linter.unusedVariables false
set_option maxRecDepth 20000
attribute [local irreducible] nv wp win plainB validR valR canR
/-! ## package linear: copied -/
def RetM (b0 n : Nat) (len : Nat → Nat) (M : Nat → Nat → Rat) (e : Ending) (w' : World) : Prop := ∃ o co, e = .returned (.slice (some ⟨o, 0, none⟩) n co) ∧ MatG w' b0 o co n len M
theorem own_lt {w : World} {b0 c n : Nat} {A : Option Addr} {R : Nat → Rw} (h : OwR w b0 A c n R) : ∀ k, (Value.slice A n c).ownBlock = some k → b0 ≤ k ∧ k < w.heap.size := by
  intro k hk
  cases e : A with
  | none => rw [e] at hk; cases hk
  | some a =>
    rw [e] at hk
    injection hk with hk
    subst hk
    obtain ⟨h1, cur, h2⟩ := h.blockA e
    exact ⟨h1, (Array.getElem?_eq_some_iff.1 h2).1⟩
theorem MatX.row_ne {w : World} {b0 o co n i c : Nat} {A : Option Addr} {len : Nat → Nat} {M : Nat → Nat → Rat} (h : MatX w b0 o co n i A c len M) (hi : i < n) : some o ≠ (Value.slice A (len i) c).ownBlock := by
  intro e
  cases e2 : A with
  | none => rw [e2] at e; cases e
  | some a =>
    rw [e2] at e
    injection e with e
    exact h.ne hi e2 e.symm
set_option maxHeartbeats 4000000 in
theorem copied_any {w : World} {n ca L : Nat} {A : Option Addr} {len : Nat → Nat} {R : Nat → Nat → Rw} (h : MatI w w.heap.size A n len R) (hn : n ≤ 1000) (hl : ∀ i, i < n → len i ≤ 1000)
    (hsz : ∀ i k, i < n → k < len i → (R i k).2.1.length ≤ L ∧ (R i k).2.2.length ≤ L) (hL : 1 ≤ L) (hL2 : L ≤ 10000000000) :
    Calls Tryz.prog 92 #[.slice A n ca] w fun e w' => RetM w.heap.size n len (fun i k => valR (R i k)) e w' ∧ Below w.heap.size w w' := by
  have HS := Lib.hid hsz
  have HL := Lib.hid hl
  clear hsz hl
  obtain ⟨M, hM⟩ : ∃ M : Nat → Nat → Rat, M = fun i k => valR (R i k) := ⟨_, rfl⟩
  have HM := Lib.hid hM
  rw [← hM]
  clear hM
  obtain ⟨o, ho⟩ : ∃ o, o = w.heap.size := ⟨_, rfl⟩
  have HO := Lib.hid ho
  clear ho
  go_enter Tryz.func92, Tryz.ntmps92
  go_wp2_with (at_make; refine wpList_makeM rfl (.tmp 9) (.tmp 9) rfl w.heap.size n M (n : Int) (n : Int) (by simp [Act.eval]) (by simp [Act.eval]) rfl rfl (by omega) (Nat.le_refl _) ?_; intro w1 own1 hb1)
  go_loopw [13] (fun i wr => ∃ k : Nat, k ≤ n ∧ i = .int .i64 k ∧ MatG wr w.heap.size w.heap.size n n (fun j => if j < k then len j else 0) M ∧ Below w.heap.size w wr ∧ Kp w.heap.size w wr) (fun i _ => n - (intOf i).toNat)
  case atStart => exact ⟨0, Nat.zero_le _, rfl, own1.congr (fun i _ => by simp) (fun i k _ hk => by omega), hb1, Kp.of_below hb1⟩
  case round =>
    obtain ⟨k, hk, rfl, own, hb, hkp⟩ := hrel
    have hbz := hb.size
    by_cases hlt : k < n
    · obtain ⟨b, off, Ai, ci, rfl, hbb, hcell, hlc, hrow⟩ := h.at_ hlt
      have hcr : wr.cell? ⟨b, off + k, none⟩ = some (.slice Ai (len k) ci) := (hkp.cell hbb (.inl hbb)).trans hcell
      have hlk := HL.out k hlt
      clear hcell
      have HRow := Lib.hid hrow
      clear hrow
      obtain ⟨lk, hlk2⟩ : ∃ lk, lk = len k := ⟨_, rfl⟩
      rw [← hlk2] at hcr hlc hlk
      have HLK := Lib.hid hlk2
      clear hlk2
      go_wp2
      go_loopw [20] (fun j wr2 => ∃ m : Nat, m ≤ lk ∧ j = .int .i64 m ∧ MatG wr2 w.heap.size w.heap.size n n (fun j => if j < k then len j else if j = k then m else 0) M ∧ Below w.heap.size w wr2 ∧ Kp w.heap.size w wr2) (fun j _ => lk - (intOf j).toNat)
      case atStart => exact ⟨0, Nat.zero_le _, rfl, own.congr (fun i _ => by simp) (fun i k _ hk => rfl), hb, hkp⟩
      case round =>
        obtain ⟨m, hm, rfl, own2, hb2, hkp2⟩ := hrel
        have hb2z := hb2.size
        by_cases hlt2 : m < lk
        · have hrow := HRow.out.kp hkp2
          have hm2 : m < len k := by rw [← HLK.out]; exact hlt2
          obtain ⟨b', off', s1, A1, n1, c1, B1, m1, d1, rfl, hbb', e0, e1, e2, r1⟩ := hrow.ra.at_ hm2
          obtain ⟨hs1, hs2⟩ := HS.out k m hlt hm2
          have q1 := r1.rdq hs1 hs2
          have hmk : M k m = valR (R k m) := by rw [HM.out]
          rw [← hmk] at q1
          have K1 := Lib.hid (fun W (hb : Below wr.heap.size wr W) => addQ (q1.below hb) ((OwQ.zero W 0).rq (Sz.zero hL)) hL (by omega))
          obtain ⟨A9, c9, hX⟩ := own2.row k
          have hcell := hX.cell hlt
          have hown := hX.own hlt
          simp only [if_pos, Nat.lt_irrefl, if_false] at hcell hown
          have hfz := own2.frozen
          have hrl := own_lt hown
          have hro := hX.row_ne hlt
          simp only [if_pos, Nat.lt_irrefl, if_false] at hro
          have HX := Lib.hid hX
          have HR := Lib.hid hown
          have HRO := Lib.hid hro
          have HRL := Lib.hid hrl
          clear hX hown hro hrl r1 hrow q1 hs1 hs2 hmk
          have hne9 : some wr.heap.size ≠ (Value.slice A9 m c9).ownBlock := fun e => by have := (HRL.out _ e.symm).2; omega
          have ne1 : ¬ (w.heap.size = wr.heap.size) := by have := own2.lt; omega
          have ne2 : ¬ (wr.heap.size = w.heap.size) := by have := own2.lt; omega
          have HN9 := Lib.hid hne9
          clear hne9
          have hlo := own2.lt
          (have olc := fun o i => below_at ((Below.refl wr.heap.size wr).alloc (Nat.le_refl _) o) (w.heap.size) i (by omega)); (have olf := fun o i => below_fr ((Below.refl wr.heap.size wr).alloc (Nat.le_refl _) o) (w.heap.size) i (by omega))
          go_wp2
          have hi0 : (0 : Int) ≤ (k : Int) := by omega
          have hi1 : (k : Int) < (n : Int) := by omega
          rw [ld_later 35 (.tmp 28)]
          go_region_held3 (fun W => W.cell? ⟨wr.heap.size, 0, none⟩ = some (.bool s1) ∧ W.cell? ⟨wr.heap.size, 1, none⟩ = some (.slice A1 n1 c1) ∧ W.cell? ⟨wr.heap.size, 2, none⟩ = some (.slice B1 m1 d1)) (go_keep)
            (first | ((go_at_call 29; (with_reducible refine (K1.out _ (by (skip); repeat' (first | (with_reducible exact Below.refl _ _) | (with_reducible assumption) | (with_reducible refine Below.alloc ?_ ?_ _) | (with_reducible refine Below.drew ?_) | (with_reducible refine below_drewN ?_ _) | (with_reducible refine Below.setCell ?_ ?_ _) | (with_reducible refine Below.trans ?_ (Below.mono (by with_reducible assumption) ?_)) | omega | (simp only [ZA, ZS, ZD, ZN]; omega) | go_size))).mono ?_); rintro e w3 ⟨⟨v3, rfl, own3⟩, hb3⟩; have hb3z := Below.size hb3; (try simp only [ZA, ZS, ZD] at hb3z); have hb3c0 := fun o => below_at hb3 (w.heap.size) o (by first | omega | (simp only [ZA, ZS, ZD]; omega)); have hb3f0 := fun o => below_fr hb3 (w.heap.size) o (by first | omega | (simp only [ZA, ZS, ZD]; omega)); have hb3l0 : w.heap.size < (w3).heap.size := (by omega); have hb3c1 := fun o => below_at hb3 (wr.heap.size) o (by first | omega | (simp only [ZA, ZS, ZD]; omega)); have hb3f1 := fun o => below_fr hb3 (wr.heap.size) o (by first | omega | (simp only [ZA, ZS, ZD]; omega)); have hb3l1 : wr.heap.size < (w3).heap.size := (by omega)); obtain ⟨s3, A3, n3, c3', B3, m3, d3, rfl⟩ := own3.form; (have omc := fun o i => below_at ((Below.refl w3.heap.size w3).alloc (Nat.le_refl _) o) (w.heap.size) i (by omega)); (have omf := fun o i => below_fr ((Below.refl w3.heap.size w3).alloc (Nat.le_refl _) o) (w.heap.size) i (by omega)); (have onc := fun o i => below_at ((Below.refl w3.heap.size w3).alloc (Nat.le_refl _) o) (wr.heap.size) i (by omega)); (have onf := fun o i => below_fr ((Below.refl w3.heap.size w3).alloc (Nat.le_refl _) o) (wr.heap.size) i (by omega))) | (refine step_appR (by rfl) (.tmp 29) (.tmp 33) (by rfl) w.heap.size A9 c9 m (can (M k)) (by rfl) (by exact HR.out.below (by have z0 := Below.size hb3; (try simp only [ZA, ZS, ZD, ZN] at z0 ⊢; skip); repeat' (first | (with_reducible exact Below.refl _ _) | (with_reducible assumption) | (with_reducible refine Below.alloc ?_ ?_ _) | (with_reducible refine Below.drew ?_) | (with_reducible refine below_drewN ?_ _) | (with_reducible refine Below.setCell ?_ ?_ _) | (with_reducible refine Below.trans ?_ (Below.mono (by with_reducible assumption) ?_)) | omega | (simp only [ZA, ZS, ZD, ZN]; omega) | go_size))) w3.heap.size s3 A3 n3 c3' B3 m3 d3 (canR (M k m + 0)) (by rfl) (by simp) (by simp) (by simp) (by exact (own3.alloc _).rs) (by omega) (by simp; omega) ?_; intro g cap w5 hown5 hgrow5 hfr5; have hx5 := fun o => hgrow5.cell_far ⟨wr.heap.size, o, none⟩ (by simp; omega) HN9.out; have hy5 := fun o => hgrow5.cell_far ⟨w.heap.size, o, none⟩ (by simp; omega) HRO.out; have hz5 := fun o => hgrow5.frozen_far ⟨w.heap.size, o, none⟩ (by simp; omega) HRO.out) | fail)
          all_goals
            have hgw := grown_trans (grown_of_below (show Below wr.heap.size wr _ from (by have z0 := Below.size hb3; (try simp only [ZA, ZS, ZD, ZN] at z0 ⊢; skip); repeat' (first | (with_reducible exact Below.refl _ _) | (with_reducible assumption) | (with_reducible refine Below.alloc ?_ ?_ _) | (with_reducible refine Below.drew ?_) | (with_reducible refine below_drewN ?_ _) | (with_reducible refine Below.setCell ?_ ?_ _) | (with_reducible refine Below.trans ?_ (Below.mono (by with_reducible assumption) ?_)) | omega | (simp only [ZA, ZS, ZD, ZN]; omega) | go_size))) _) hgrow5
            have hown6 := hown5
            rw [upd_can, Rat.add_zero, upd_self] at hown6
            have hfr6 : (Value.slice A9 m c9).ownBlock = some g ∨ wr.heap.size ≤ g := by
              rcases hfr5 with h5 | h5
              · exact .inl h5
              · simp only [World.size_alloc, World.size_drew] at h5
                exact .inr (by omega)
            have hp := HX.out.put' hlt hgw hown6 hfr6 (by omega)
            rw [upd_self] at hp
            go_wp2
            go_roundw
            case rel =>
              refine ⟨m + 1, by omega, by go_num, hp.1.congr (fun i _ => ?_) (fun _ _ _ _ => rfl), hb2.trans hp.2.2, hkp2.trans hp.2.1⟩
              unfold upd
              by_cases e : i = k
              · simp [e]
              · simp [e]
            case measure => simp [intOf]; omega
        · have HE : Hid (∀ i, (if i < k then len i else if i = k then m else 0) = if i < k + 1 then len i else 0) := by
            show ∀ i, _ = _
            intro i
            by_cases e : i = k
            · subst e
              rw [if_neg (by omega), if_pos rfl, if_pos (by omega), ← HLK.out]; omega
            · by_cases e2 : i < k
              · rw [if_pos e2, if_pos (by omega)]
              · rw [if_neg e2, if_neg e, if_neg (by omega)]
          go_wp2
          go_roundw
          case rel => exact ⟨k + 1, by omega, by go_num, own2.congr (fun i _ => HE.out i) (fun _ _ _ _ => rfl), hb2, hkp2⟩
          case measure => simp [intOf]; omega
    · clear h
      have HR : Hid (∀ i, i < n → (if i < k then len i else 0) = len i) := by
        show ∀ i, i < n → _ = _
        intro i hi
        rw [if_pos (by omega)]
      go_wp2
      go_ret
      exact ⟨⟨w.heap.size, n, rfl, own.congr HR.out fun _ _ _ _ => rfl⟩, hb⟩
end Go.Proofs.YtmebdlilbnadgaaGreatDoor
