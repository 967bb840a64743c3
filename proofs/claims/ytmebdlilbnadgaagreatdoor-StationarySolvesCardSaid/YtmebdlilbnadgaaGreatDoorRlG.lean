/- Contracts of functions and lemmas, used by the proofs of the given statements. No condition beyond those that each lemma names. -/
import Derived.Test.YtmebdlilbnadgaaGreatDoorRlD
import Derived.Test.YtmebdlilbnadgaaGreatDoorRlE
import Derived.Test.YtmebdlilbnadgaaGreatDoorJLinY
namespace Go.Proofs.YtmebdlilbnadgaaGreatDoor
open Go.RowKit
set_option linter.unusedSimpArgs false
set_option linter.unusedVariables false
set_option maxRecDepth 20000
attribute [local irreducible] nv wp win plainB validR valR canR gj findR elim swp gl fre rdF
/-! ## reference: Solve -/
theorem codeS_mem (n c : Nat) (M : Mf) (y : Nat → Rat) : (c ∈ (gj n (wide M y c) (c + 1)).2 ∧ codeS n c (wide M y c) = 17) ∨
    (c ∉ (gj n (wide M y c) (c + 1)).2 ∧ (gj n (wide M y c) (c + 1)).2.length < c ∧ codeS n c (wide M y c) = 16) ∨ (c ∉ (gj n (wide M y c) (c + 1)).2 ∧ ¬ (gj n (wide M y c) (c + 1)).2.length < c ∧ codeS n c (wide M y c) = 0) := by
  rcases wide_rank n c M y with ⟨h1, h2⟩ | ⟨h1, h2⟩
  · exact .inl ⟨by rw [h1]; simp, codeS_17 h2⟩
  · have hm : c ∉ (gj n (wide M y c) (c + 1)).2 := fun h => by rw [h1] at h; have := gj_lt c _ h; omega
    by_cases h3 : (gj n (wide M y c) (c + 1)).2.length < c
    · exact .inr (.inl ⟨hm, h3, codeS_16 h2 h3⟩)
    · exact .inr (.inr ⟨hm, h3, codeS_0 h2 h3⟩)
def RetSR (n c : Nat) (W : Mf) (e : Ending) (w : World) : Prop :=
  (codeS n c W = 0 ∧ ∃ A d, e = .returned (.tuple #[.slice A c d, .int .i64 0]) ∧ RowI w w.heap.size A c (can fun i => (gj n W (c + 1)).1 i c) ∧ c ≤ d) ∨ (codeS n c W ≠ 0 ∧ e = .returned (.tuple #[.slice none 0 0, .int .i64 (codeS n c W)]))
set_option maxHeartbeats 8000000 in
theorem rsolve_any {w : World} {n c ca cb L : Nat} {A B : Option Addr} {len : Nat → Nat} {R : Nat → Nat → Rw} {Rb : Nat → Rw} (h : MatI w w.heap.size A n len R) (hB : RowI w w.heap.size B n Rb) (hcode : codeM n len = 0) (hc : len 0 = c)
    (hz : ∀ i k, i < n → k < c → (R i k).2.1.length ≤ L ∧ (R i k).2.2.length ≤ L) (hzb : ∀ i, i < n → (Rb i).2.1.length ≤ L ∧ (Rb i).2.2.length ≤ L) (hL : 1 ≤ L) (hg : gl L (c + 1) ≤ 1000000000) :
    Calls Tryz.prog 57 #[.slice A n ca, .slice B n cb] w fun e w' => RetSR n c (wide (fun i k => valR (R i k)) (fun i => valR (Rb i)) c) e w' ∧ Below w.heap.size w w' := by
  obtain ⟨hn0, hl0, hn, hl, hall⟩ := codeM_zero hcode
  rw [hc] at hl0 hl
  have K1 := Lib.hid (rcheck_any (ca := ca) h (by omega) (fun i hi => by have := hall i hi; omega))
  rw [hcode] at K1
  have KR := Lib.hid (fun W Aw dw (hm : MatI W W.heap.size Aw n (fun _ => c + 1) (wideR R Rb c)) => (by
    have := rreduce_any (ca := dw) (L := L) hm hn0 (show 0 < c + 1 by omega) (by omega) (by omega) (fun _ _ => rfl) (fun i k hi hk => by
      unfold wideR
      by_cases e : k < c
      · rw [if_pos e]; exact hz i k hi e
      · rw [if_neg e]; exact hzb i hi) hL hg
    rwa [wideR_val] at this : Calls Tryz.prog 103 #[.slice Aw n dw] W fun e w' => RetRR W.heap.size n (c + 1) (wide (fun i k => valR (R i k)) (fun i => valR (Rb i)) c) e w' ∧ Below W.heap.size W w'))
  obtain ⟨V, hV⟩ : ∃ V, V = wide (fun i k => valR (R i k)) (fun i => valR (Rb i)) c := ⟨_, rfl⟩
  have HK := Lib.hid (codeS_mem n c (fun i k => valR (R i k)) (fun i => valR (Rb i)))
  have HLN := Lib.hid (gj_len_le (n := n) (M := V) (c + 1)).2
  rw [← hV] at KR HK ⊢
  have HA := Lib.hid h
  have HB := Lib.hid hB
  have HL := Lib.hid (fun i hi => (hall i hi).trans hc)
  obtain ⟨b, off, A0, c0, rfl, hc0, -⟩ := h.at0 hn0
  rw [hc] at hc0
  clear hV hz hzb hg h hB hcode hc hall
  unfold RetRR at KR
  unfold RetSR
  obtain ⟨p, hp⟩ : ∃ p, p = (gj n V (c + 1)).2 := ⟨_, rfl⟩
  obtain ⟨S, hS⟩ : ∃ S, S = (gj n V (c + 1)).1 := ⟨_, rfl⟩
  obtain ⟨q, hq⟩ : ∃ q, q = codeS n c V := ⟨_, rfl⟩
  obtain ⟨r, hr⟩ : ∃ r, r = p.length := ⟨_, rfl⟩
  rw [← hp] at KR HK HLN
  rw [← hS] at KR ⊢
  rw [← hq] at HK ⊢
  rw [← hr] at KR HK HLN
  have HR := Lib.hid hr
  clear hp hS hq hr
  go_enter Tryz.func57, Tryz.ntmps57
  go_wp2_with (first | (go_at_call 102; (with_reducible refine (K1.out).mono ?_); rintro e _ ⟨rfl, rfl⟩) | fail)
  clear K1 hc0
  go_loopw [8, 32] (fun a i wr => ∃ k A d, k ≤ n ∧ i = .int .i64 (k : Int) ∧ a = .slice A k d ∧ MatW wr w.heap.size A d k (fun _ => c + 1) (wideR R Rb c) ∧ Below w.heap.size w wr) (fun _ i _ => n - (intOf i).toNat)
  case atStart => exact ⟨0, none, 0, Nat.zero_le _, rfl, rfl, MatW.nil_ _ _ _ _, Below.refl _ _⟩
  case round =>
    obtain ⟨k, A2, d2, hk, rfl, rfl, own, hb5⟩ := hrel
    have hb5z := hb5.size
    have h14 := Nat.le_refl w.heap.size
    have hbw := hb5
    by_cases hkn : k < n
    · obtain ⟨x1, x2, Ai, ci, e1, _, ha0, hlc, hrow⟩ := HA.out.at_ hkn
      obtain ⟨rfl, rfl⟩ : x1 = b ∧ x2 = off := by injection e1 with e1; injection e1 with e1 e2; exact ⟨e1.symm, e2.symm⟩
      rw [HL.out k hkn] at ha0 hlc hrow
      have ha1 := (hbw.cell (lt_of_cell ha0)).trans ha0
      obtain ⟨ax, ox, _, _, _, _, _, _, _, rfl, hax, _, _, _, _⟩ := hrow.ra.at_ hl0
      obtain ⟨bB, oB, s1, A1, n1, c1, B1, m1, d1, rfl, hbB, f0, f1, f2, r1⟩ := HB.out.ra.at_ hkn
      have tc : ∀ {b o : Nat} {v : Value}, w.cell? ⟨b, o, none⟩ = some v → wr.cell? ⟨b, o, none⟩ = some v := fun h => (hbw.cell (lt_of_cell h)).trans h
      have hf0 := tc f0
      have hf1 := tc f1
      have hf2 := tc f2
      have HRW := Lib.hid ((hrow.kp (Kp.of_below hbw)).ra.base h14)
      have HRB := Lib.hid ((r1.kp (Kp.of_below hbw)).base h14)
      have HMW := Lib.hid own
      have hbB4 : bB < w.heap.size := by omega
      have HWC : Hid (∀ j, j < c + 1 → upd (R k) c (Rb k) j = wideR R Rb c k j) := fun j hj => by
        unfold upd wideR
        by_cases e : j = c
        · rw [if_pos e, if_neg (by omega)]
        · rw [if_neg e, if_pos (by omega)]
      clear own tc f0 f1 f2 r1 hrow ha0 e1
      have hk0 : (0 : Int) ≤ (k : Int) := by omega
      have hk1 : (k : Int) < (n : Int) := by omega
      have hbBl : bB < wr.heap.size := by have := hbw.size; omega
      go_wp2
      go_region_held3 (fun W => W.cell? ⟨bB, oB + k * 3, none⟩ = some (.bool s1) ∧ W.cell? ⟨bB, oB + k * 3 + 1, none⟩ = some (.slice A1 n1 c1) ∧ W.cell? ⟨bB, oB + k * 3 + 2, none⟩ = some (.slice B1 m1 d1)) (go_keep)
        (first
          | (refine step_appRow0 (by rfl) (.tmp 38) (.tmp 39) (by rfl) w.heap.size _ _ (R k) (by rfl) (by first | exact OwR.empty (by first | exact hb5z | omega | (simp <;> omega)) | exact (OwR.empty (w := wr) (by first | exact hb5z | omega | (simp <;> omega))).below (by (skip); repeat' (first | (with_reducible exact Below.refl _ _) | (with_reducible assumption) | (with_reducible refine Below.alloc ?_ ?_ _) | (with_reducible refine Below.drew ?_) | (with_reducible refine below_drewN ?_ _) | (with_reducible refine Below.setCell ?_ ?_ _) | (with_reducible refine Below.trans ?_ (Below.mono (by with_reducible assumption) ?_)) | omega | (simp only [ZA, ZS, ZD, ZN]; omega) | go_size)) | exact (OwR.empty' (w := wr.alloc (.cells #[.bool s1, .slice A1 n1 c1, .slice B1 m1 d1] 30)) (by first | exact hb5z | omega | (simp <;> omega)) (by simp)).below (by (skip); repeat' (first | (with_reducible exact Below.refl _ _) | (with_reducible assumption) | (with_reducible refine Below.alloc ?_ ?_ _) | (with_reducible refine Below.drew ?_) | (with_reducible refine below_drewN ?_ _) | (with_reducible refine Below.setCell ?_ ?_ _) | (with_reducible refine Below.trans ?_ (Below.mono (by with_reducible assumption) ?_)) | omega | (simp only [ZA, ZS, ZD, ZN]; omega) | go_size))) ⟨ax, ox, none⟩ c ci (R k) (by rfl) (HRW.out.below (by (skip); repeat' (first | (with_reducible exact Below.refl _ _) | (with_reducible assumption) | (with_reducible refine Below.alloc ?_ ?_ _) | (with_reducible refine Below.drew ?_) | (with_reducible refine below_drewN ?_ _) | (with_reducible refine Below.setCell ?_ ?_ _) | (with_reducible refine Below.trans ?_ (Below.mono (by with_reducible assumption) ?_)) | omega | (simp only [ZA, ZS, ZD, ZN]; omega) | go_size))) hl0 (by omega) (by first | exact hb5z | omega | (simp <;> omega)) ?_; intro g4 cap4 w5 hown5 hgrow5 hfr5; have hb55 : Below wr.heap.size wr w5 := (show Below wr.heap.size wr _ from (by (skip); repeat' (first | (with_reducible exact Below.refl _ _) | (with_reducible assumption) | (with_reducible refine Below.alloc ?_ ?_ _) | (with_reducible refine Below.drew ?_) | (with_reducible refine below_drewN ?_ _) | (with_reducible refine Below.setCell ?_ ?_ _) | (with_reducible refine Below.trans ?_ (Below.mono (by with_reducible assumption) ?_)) | omega | (simp only [ZA, ZS, ZD, ZN]; omega) | go_size))).trans (below_of_row hgrow5 (fun q hq => by injection hq with hq; subst hq; first | exact Nat.le_refl _ | (simp <;> omega)) (by first | omega | (simp <;> omega))); have hx5 := fun o => below_at hb55 bB o hbBl; have hz55 := hb55.size; have hg4 : wr.heap.size ≤ g4 := hfr5.elim (fun h => by injection h with h; subst h; first | exact Nat.le_refl _ | (simp <;> omega)) (fun h => by first | omega | (simp at h <;> omega)))
          | (refine step_appR (by rfl) (.tmp 40) (.tmp 45) (by rfl) w.heap.size _ _ c (R k) (by rfl) (by first | exact hown5 | exact hown5.below ((Below.refl _ _).alloc (Nat.le_refl _) _)) _ s1 A1 n1 c1 B1 m1 d1 (Rb k) (by rfl) (by first | (simp; done) | (rw [hgrow5.cell_far ⟨wr.heap.size + 1, 0, none⟩ (by simp <;> omega) (by simp [Value.ownBlock])]; simp; done) | (rw [hgrow5.cell_far ⟨wr.heap.size, 0, none⟩ (by simp <;> omega) (by simp [Value.ownBlock])]; simp; done)) (by first | (simp; done) | (rw [hgrow5.cell_far ⟨wr.heap.size + 1, 1, none⟩ (by simp <;> omega) (by simp [Value.ownBlock])]; simp; done) | (rw [hgrow5.cell_far ⟨wr.heap.size, 1, none⟩ (by simp <;> omega) (by simp [Value.ownBlock])]; simp; done)) (by first | (simp; done) | (rw [hgrow5.cell_far ⟨wr.heap.size + 1, 2, none⟩ (by simp <;> omega) (by simp [Value.ownBlock])]; simp; done) | (rw [hgrow5.cell_far ⟨wr.heap.size, 2, none⟩ (by simp <;> omega) (by simp [Value.ownBlock])]; simp; done)) (HRB.out.kp (Kp.of_below (by have z0 := Below.size hb55; (try simp only [ZA, ZS, ZD, ZN] at z0 ⊢; skip); repeat' (first | (with_reducible exact Below.refl _ _) | (with_reducible assumption) | (with_reducible refine Below.alloc ?_ ?_ _) | (with_reducible refine Below.drew ?_) | (with_reducible refine below_drewN ?_ _) | (with_reducible refine Below.setCell ?_ ?_ _) | (with_reducible refine Below.trans ?_ (Below.mono (by with_reducible assumption) ?_)) | omega | (simp only [ZA, ZS, ZD, ZN]; omega) | go_size)))) (by omega) (by first | exact hb5z | omega | (simp <;> omega)) ?_; intro g5 cap5 w6 hown6 hgrow6 hfr6; have hb56 : Below wr.heap.size wr w6 := (show Below wr.heap.size wr _ from (by have z0 := Below.size hb55; (try simp only [ZA, ZS, ZD, ZN] at z0 ⊢; skip); repeat' (first | (with_reducible exact Below.refl _ _) | (with_reducible assumption) | (with_reducible refine Below.alloc ?_ ?_ _) | (with_reducible refine Below.drew ?_) | (with_reducible refine below_drewN ?_ _) | (with_reducible refine Below.setCell ?_ ?_ _) | (with_reducible refine Below.trans ?_ (Below.mono (by with_reducible assumption) ?_)) | omega | (simp only [ZA, ZS, ZD, ZN]; omega) | go_size))).trans (below_of_row hgrow6 (fun q hq => by have hq2 : g4 = q := (by injection hq); omega) (by first | omega | (simp <;> omega))); have hx6 := fun o => below_at hb56 bB o hbBl; have hz56 := hb56.size)
          | (refine step_appW (by rfl) (.tmp 37) (.tmp 47) (by rfl) w.heap.size A2 d2 k (fun _ => c + 1) (wideR R Rb c) (by rfl) (HMW.out.below (by have z0 := Below.size hb56; (try simp only [ZA, ZS, ZD, ZN] at z0 ⊢; skip); repeat' (first | (with_reducible exact Below.refl _ _) | (with_reducible assumption) | (with_reducible refine Below.alloc ?_ ?_ _) | (with_reducible refine Below.drew ?_) | (with_reducible refine below_drewN ?_ _) | (with_reducible refine Below.setCell ?_ ?_ _) | (with_reducible refine Below.trans ?_ (Below.mono (by with_reducible assumption) ?_)) | omega | (simp only [ZA, ZS, ZD, ZN]; omega) | go_size))) _ (by rfl) (some ⟨g5, 0, none⟩) cap5 (by simp) ((hown6.congr HWC.out).below ((Below.refl _ _).alloc (Nat.le_refl _) _)) (by omega) (by first | exact hb5z | omega | (simp <;> omega)) ?_; intro A9 d9 w7 own9 hb79; have hx7 := fun o => hb79.cell (p := ⟨bB, o, none⟩) hbB4; have hb57 : Below w.heap.size wr w7 := Below.trans (show Below w.heap.size wr _ from (hb56.mono hb5z).alloc (by omega) _) hb79)
          | fail)
      all_goals
        go_wp2
        go_roundw
        case rel => exact ⟨k + 1, A9, d9, by omega, by go_num, rfl, own9, hb5.trans hb57⟩
        case measure => simp [intOf]; omega
    · have hkn2 : k = n := by omega
      subst hkn2
      have HMW := Lib.hid own
      clear own
      go_wp2_with fail
      ((go_at_call 103; (with_reducible refine (KR.out _ _ _ (HMW.out.mi (by omega))).mono ?_); rintro e w5 ⟨⟨bo, co, P, cp, v5, rfl, own5, opv5, rd5⟩, hb6⟩; have hb6z := Below.size hb6; (try simp only [ZA, ZS, ZD] at hb6z)))
      obtain ⟨sd, Ad, nd, cd, Bd, md, dd, rfl⟩ := rd5.form
      have hbw5 : Below w.heap.size w w5 := hb5.trans (hb6.mono hb5z)
      have h56 := hb6.size
      have hal : Below w5.heap.size w5 (w5.alloc (.cells #[.bool sd, .slice Ad nd cd, .slice Bd md dd] 30)) := (Below.refl _ _).alloc (Nat.le_refl _) _
      have hbw6 := hbw5.trans (hal.mono hbw5.size)
      have HO := Lib.hid (own5.below hal)
      have HP := Lib.hid (opv5.below hal)
      have hz6 := hal.size
      clear own5 opv5 rd5 KR HMW hb6
      go_wp2_with fail
      obtain ⟨w6, hw6⟩ : ∃ w6, w6 = w5.alloc (.cells #[.bool sd, .slice Ad nd cd, .slice Bd md dd] 30) := ⟨_, rfl⟩
      rw [← hw6] at HO HP hbw6 hz6 ⊢
      have KH := Lib.hid (by
        have := has_any (x := c) HP.out (by rw [← HR.out]; have := HLN.out; omega)
        rw [← HR.out] at this
        exact this : Calls Tryz.prog 104 #[.slice P r cp, .int .i64 (c : Int)] w6 fun e w' => e = .returned (.bool (decide (c ∈ p))) ∧ Below w6.heap.size w6 w')
      clear hw6 hal
      ((go_at_call 104; (with_reducible refine (KH.out).mono ?_); rintro e w7 ⟨rfl, hb7⟩; have hb7z := Below.size hb7; (try simp only [ZA, ZS, ZD] at hb7z)))
      have hbw7 := hbw6.trans (hb7.mono hbw6.size)
      have hk := HK.out
      have hln := HLN.out
      clear HK KH
      rcases hk with ⟨k1, k2⟩ | ⟨k1, k2, k3⟩ | ⟨k1, k2, k3⟩
      · rw [decide_eq_true k1]
        subst k2
        clear k1
        go_wp2
        go_ret2
        exact ⟨.inr ⟨by omega, rfl⟩, hbw7⟩
      · rw [decide_eq_false k1]
        subst k3
        clear k1
        have k4 : (r : Int) < (c : Int) := by omega
        go_wp2
        go_ret2
        exact ⟨.inr ⟨by omega, rfl⟩, hbw7⟩
      · rw [decide_eq_false k1]
        subst k3
        clear k1
        have k4 : ¬ ((r : Int) < (c : Int)) := by omega
        have HO7 := Lib.hid (HO.out.below hb7)
        have hb67 := hb7.size
        have h06 := hbw7.size
        clear HO
        go_wp2
        go_loopw [14, 64] (fun a i wr => ∃ k A d, k ≤ c ∧ i = .int .i64 (k : Int) ∧ a = .slice A k d ∧ OwR wr w7.heap.size A d k (can fun i => S i c) ∧ Below w7.heap.size w7 wr) (fun _ i _ => c - (intOf i).toNat)
        case atStart => exact ⟨0, none, 0, Nat.zero_le _, rfl, rfl, OwR.nil_ _ _ _, Below.refl _ _⟩
        case round =>
          obtain ⟨i, A2, d2, hi, rfl, rfl, own, hb8⟩ := hrel
          have hb8z := hb8.size
          by_cases hic : i < c
          · have hin : i < k := by omega
            obtain ⟨gS, dS, hXS⟩ := (HO7.out.below hb8).row1 hin (by omega)
            have hcS := hXS.cell hin
            try simp only at hcS
            obtain ⟨s5, A5, n5, c5, B5, m5, e5, f0, f1, f2, r5⟩ := (hXS.own hin).at_ (show c < c + 1 by omega)
            have HR5 := Lib.hid (RdS.base (b1 := w7.heap.size) r5 (by omega))
            have HOO := Lib.hid own
            have hi0 : (0 : Int) ≤ (i : Int) := by omega
            have hi1 : (i : Int) < (r : Int) := by omega
            have hi2 : (i : Int) < (k : Int) := by omega
            have hi3 : (c : Int) < (c : Int) + 1 := by omega
            clear hXS r5 own
            go_wp2_with (first | (at_builtin; refine wpList_appR1 rfl (.tmp 67) (.tmp 75) rfl w7.heap.size A2 d2 i (can fun i => S i c) (by simp [Act.eval]) (HOO.out.below ((Below.refl _ _).alloc (Nat.le_refl _) _)) wr.heap.size s5 A5 n5 c5 B5 m5 e5 (canR (S i c)) (by simp [Act.eval]) (by simp) (by simp) (by simp) (HR5.out.kp (Kp.of_below ((Below.refl _ _).alloc (Nat.le_refl _) _))) (by omega) (by simp; omega) ?_; intro A9 d9 w9 own9 hg9 hf9) | fail)
            rw [upd_can, upd_self] at own9
            have hw9 : Below w7.heap.size w7 w9 := hb8.trans (((Below.refl _ wr).alloc hb8z _).trans (below_of_row hg9 (fun q hq => (own_lt HOO.out q hq).1) (by simp; omega)))
            exact ⟨⟨i + 1, A9, d9, by omega, by go_num, rfl, own9, hw9⟩, by simp [intOf]; omega⟩
          · have hic2 : i = c := by omega
            subst hic2
            go_wp2
            go_ret2
            exact ⟨⟨_, _, rfl, own.ri hb8z, own.cap⟩, hbw7.trans (hb8.mono h06)⟩
end Go.Proofs.YtmebdlilbnadgaaGreatDoor
