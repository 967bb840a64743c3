/- Contracts of functions and lemmas, used by the proofs of the given statements. No condition beyond those that each lemma names. -/
import Derived.Test.YtnljncncnohncaaDoorRlD
import Derived.Test.YtnljncncnohncaaDoorRlE
namespace Go.Proofs.YtnljncncnohncaaDoor
open Go.RowKit
set_option linter.unusedSimpArgs false
set_option linter.unusedVariables false
set_option maxRecDepth 20000
attribute [local irreducible] nv wp win plainB validR valR canR gj findR elim swp gl kx fre kerM rdF
/-! ## reference: Kernel -/
def RetRK (n c : Nat) (M : Mf) (e : Ending) (w' : World) : Prop := ∃ A d, e = .returned (.slice A (fre (gj n M c).2 c).length d) ∧ MatI w' w'.heap.size A (fre (gj n M c).2 c).length (fun _ => c) (fun i => can (kerM n M c i))
set_option maxHeartbeats 8000000 in
theorem rkernel_any {w : World} {n c ca L : Nat} {A : Option Addr} {len : Nat → Nat} {R : Nat → Nat → Rw} (h : MatI w w.heap.size A n len R) (hn0 : 0 < n) (hl0 : 0 < c) (hn : n ≤ 1000) (hl : c ≤ 1000) (hlen : ∀ i, i < n → len i = c)
    (hz : ∀ i k, i < n → k < c → (R i k).2.1.length ≤ L ∧ (R i k).2.2.length ≤ L) (hL : 1 ≤ L) (hg : gl L c ≤ 1000000000) :
    Calls Tryd.prog 33 #[.slice A n ca] w fun e w' => RetRK n c (fun i k => valR (R i k)) e w' ∧ Below w.heap.size w w' := by
  obtain ⟨M, hM⟩ : ∃ M : Mf, M = fun i k => valR (R i k) := ⟨_, rfl⟩
  have HSZ := Lib.hid (gj_sz (n := n) (M := M) (c := c) hL (fun a b (ha : a < n) (hb : b < c) => (by rw [hM]; exact Sz_valR (h.ok' ha (by rw [hlen a ha]; exact hb)) hL (hz a b ha hb).1 (hz a b ha hb).2 : Sz L (M a b))) c (Nat.le_refl _))
  have HG := Lib.hid hg
  have HGP := Lib.hid (gl_pos hL c)
  have KR := Lib.hid (rreduce_any (ca := ca) h hn0 hl0 hn hl hlen hz hL hg)
  have K1 : ∀ W, Calls Tryd.prog 50 #[.int .i64 1] W fun e w' => RetQ W.heap.size ((1 : Nat) : Rat) e w' ∧ Below W.heap.size W w' := fun W => rofQ 1 W (by omega)
  have K1 := Lib.hid K1
  obtain ⟨b, off, A0, c0, rfl, hc0, -⟩ := h.at0 hn0
  rw [hlen 0 hn0] at hc0
  rw [← hM] at KR ⊢
  obtain ⟨p, hp⟩ : ∃ p, p = (gj n M c).2 := ⟨_, rfl⟩
  obtain ⟨S, hS⟩ : ∃ S, S = (gj n M c).1 := ⟨_, rfl⟩
  have HK := Lib.hid (fun k (hk : k < c) (hf : k ∉ p) => (by subst hp; exact kerM_at hk hf : kerM n M c (fre p k).length = kx n M c k p.length))
  have HX := Lib.hid (fun k t => (by subst hp hS; exact kx_succ n M c k t : kx n M c k (t + 1) = upd (kx n M c k t) (pv p t) (-S t k)))
  have HPL := Lib.hid (fun x (hx : x ∈ p) => gj_lt c x (hp ▸ hx))
  have hpl : p.length ≤ n := by rw [hp]; exact (gj_len_le c).2
  unfold RetRR at KR
  unfold RetRK
  rw [← hS] at HSZ
  rw [← hp, ← hS] at KR
  rw [← hp]
  clear hp hS hM hz hg h hlen
  obtain ⟨t, hr⟩ : ∃ r, r = p.length := ⟨_, rfl⟩
  rw [← hr] at hpl KR HK
  have HR := Lib.hid hr
  clear hr
  obtain ⟨K, hK⟩ : ∃ K, K = kerM n M c := ⟨_, rfl⟩
  rw [← hK] at HK ⊢
  clear hK
  have hcw := hc0
  go_enter Tryd.func33, Tryd.ntmps33
  go_wp2_with fail
  (with_reducible refine (KR.out).mono ?_)
  rintro e w1 ⟨⟨bo, co, P, cp, v1, rfl, own1, opv1, rd1⟩, hb1⟩
  obtain ⟨sd, Ad, nd, cd, Bd, md, dd, rfl⟩ := rd1.form
  have hbz1 := hb1.size
  have hbb := lt_of_cell hc0
  have hal : Below w1.heap.size w1 (w1.alloc (.cells #[.bool sd, .slice Ad nd cd, .slice Bd md dd] 37)) := (Below.refl _ _).alloc (Nat.le_refl _) _
  have HO1 := Lib.hid (own1.below hal)
  have HP1 := Lib.hid (opv1.below hal)
  have hcI := Lib.cell?_alloc_some (.cells #[.bool sd, .slice Ad nd cd, .slice Bd md dd] 37) ((hb1.cell (p := ⟨b, off, none⟩) hbb).trans hc0)
  have hbI := hb1.trans (hal.mono hbz1)
  clear own1 opv1 KR rd1 hc0 hcw
  go_wp2
  obtain ⟨wI, hwI⟩ : ∃ wI, wI = w1.alloc (.cells #[.bool sd, .slice Ad nd cd, .slice Bd md dd] 37) := ⟨_, rfl⟩
  rw [← hwI] at HO1 HP1 hcI hbI hal ⊢
  have hbz := hbI.size
  clear hwI hal hb1 hbz1
  have KH := Lib.hid (fun W (k : Nat) (hb : Below wI.heap.size wI W) => (by
    have := has_any (x := k) (HP1.out.below hb) (by rw [← HR.out]; omega)
    rw [← HR.out] at this
    exact this : Calls Tryd.prog 42 #[.slice P t cp, .int .i64 (k : Int)] W fun e w' => e = .returned (.bool (decide (k ∈ p))) ∧ Below W.heap.size W w'))
  go_loopw [6, 21] (fun a i wr => ∃ k A d, k ≤ c ∧ i = .int .i64 (k : Int) ∧ a = .slice A (fre p k).length d ∧ MatO wr wI.heap.size A d (fre p k).length (fun _ => c) K ∧ Below wI.heap.size wI wr) (fun _ i _ => c - (intOf i).toNat)
  case atStart => exact ⟨0, none, 0, Nat.zero_le _, rfl, by unfold fre; rfl, by unfold fre; exact MatO.nil_ _ _ _ _, Below.refl _ _⟩
  case round =>
    obtain ⟨k, A2, d2, hk, rfl, rfl, own, hb2⟩ := hrel
    have hb2z := hb2.size
    have hbw2 : Below w.heap.size w wr := hbI.trans (hb2.mono hbz)
    have hcr := (hb2.cell (p := ⟨b, off, none⟩) (by show b < _; omega)).trans hcI
    by_cases hkc : k < c
    · have hk0 : (0 : Int) ≤ (k : Int) := by omega
      have hk1 : (k : Int) < (c : Int) := by omega
      have HMO0 := Lib.hid own
      clear own
      go_wp2_with fail
      ((go_at_call 42; (with_reducible refine (KH.out _ k hb2).mono ?_); rintro e wh ⟨rfl, hbh⟩; have hbhz := Below.size hbh; (try simp only [World.size_alloc, World.size_setCell, World.size_drew] at hbhz)))
      have hbh2 := hb2.trans (hbh.mono hb2z)
      have hbhz := hbh2.size
      have hch := (hbh2.cell (p := ⟨b, off, none⟩) (by show b < _; omega)).trans hcI
      by_cases hin : k ∈ p
      · rw [decide_eq_true hin]
        have HE := Lib.hid (fre_in hin)
        clear hin
        go_wp2
        go_roundw
        case rel => exact ⟨k + 1, A2, d2, by omega, by go_num, by rw [HE.out], by rw [HE.out]; exact HMO0.out.below hbh, hbh2⟩
        case measure => simp [intOf]; omega
      · rw [decide_eq_false hin]
        have HE := Lib.hid (fre_out hin)
        have HKM := Lib.hid (HK.out k hkc hin)
        have HMO := Lib.hid (HMO0.out.below hbh)
        have hfl := fre_len p k
        clear hin HMO0
        generalize hfk : (fre p k).length = fk at *
        have HFK := Lib.hid hfk
        clear hfk
        obtain ⟨wq, hwq⟩ : ∃ wq, wq = wh := ⟨_, rfl⟩
        subst hwq
        clear hcr
        go_wp2_with (first | (at_make; refine wpList_makeR rfl (.tmp 30) (.tmp 30) rfl wI.heap.size c (c : Int) (c : Int) (by simp [Act.eval]) (by simp [Act.eval]) rfl rfl (by omega) (by omega) ?_; intro w3 own3 hb3) | fail)
        have hw3z := hb3.size
        have hgl := own3.lt
        ((go_at_call 50; (with_reducible refine (K1.out _).mono ?_); rintro e w4 ⟨⟨v4, rfl, own4⟩, hb4⟩; have hb4z := Below.size hb4; (try simp only [World.size_alloc, World.size_setCell, World.size_drew] at hb4z)))
        obtain ⟨s4, A4, n4, c4, B4, m4, e4, rfl⟩ := own4.form
        have st := (own3.below hb4).set hkc (own4.rs (b0 := wI.heap.size))
        have hfz := (own3.below hb4).frozen
        obtain ⟨t0, t1, t2, t3, t4, t5, t6, y0, y1, y2, -⟩ := (own3.below hb4).at_ hkc
        have e0 : upd (can fun _ => 0) k (canR ((1 : Nat) : Rat)) = can (kx n M c k 0) := by rw [upd_can, kx_start]; rfl
        rw [e0] at st
        have ST := Lib.hid st.1
        have hb5 := hb3.trans ((hb4.mono hw3z).trans (below_of_row st.2 (fun q hq => by injection hq with hq; omega) (by have := hb4.size; omega)))
        clear st e0 own3 own4
        go_wp2
        clear y0 y1 y2 hfz t0 t1 t2 t3 t4 t5 t6
        go_loopw [38] (fun i wr => ∃ s : Nat, s ≤ t ∧ i = .int .i64 s ∧ OwR wr wI.heap.size (some ⟨wq.heap.size, 0, none⟩) c c (can (kx n M c k s)) ∧ Below wq.heap.size wq wr ∧ wq.heap.size < wr.heap.size) (fun i _ => t - (intOf i).toNat)
        case atStart => exact ⟨0, Nat.zero_le _, rfl, ST.out, hb5, ST.out.lt⟩
        case round =>
          obtain ⟨s, hs, rfl, ownx, hb6, hwr⟩ := hrel
          have hb16 : Below wI.heap.size wI wr := hbh2.trans (hb6.mono hbhz)
          by_cases hst : s < t
          · have hlt' : s < p.length := by rw [← HR.out]; exact hst
            obtain ⟨gP, rfl, hcP⟩ := (HP1.out.below hb16).at_ hlt'
            have hx := HPL.out _ (List.getElem_mem hlt')
            have HXE := Lib.hid (by have := HX.out k s; rw [pv_at hlt'] at this; exact this)
            generalize p[s] = x at *
            have hsn : s < n := by omega
            obtain ⟨gS, dS, hXS⟩ := (HO1.out.below hb16).row1 hsn hl0
            have hcS := hXS.cell hsn
            try simp only at hcS
            obtain ⟨s5, A5, n5, c5, B5, m5, e5, f0, f1, f2, r5⟩ := (hXS.own hsn).at_ hkc
            have KN := Lib.hid (rneg_any (r5.canQ (HSZ.out s k hsn hkc)) HGP.out (by have := HG.out; omega))
            have hs0 : (0 : Int) ≤ (s : Int) := by omega
            have hs1 : (s : Int) < (n : Int) := by omega
            have hs2 : (s : Int) < (t : Int) := by omega
            have hx0 : (0 : Int) ≤ (x : Int) := by omega
            have hx1 : (x : Int) < (c : Int) := by omega
            have HOX := Lib.hid ownx
            clear hXS r5 ownx hlt'
            go_wp2_with (first | ((go_at_call 52; (with_reducible refine (KN.out).mono ?_); rintro e w6 ⟨⟨v6, rfl, own6⟩, hb7⟩; have hb7z := Below.size hb7; (try simp only [World.size_alloc, World.size_setCell, World.size_drew] at hb7z)); obtain ⟨s6, A6, n6, c6, B6, m6, e6, rfl⟩ := own6.form; have hfz := (HOX.out.below hb7).frozen; obtain ⟨t0, t1, t2, t3, t4, t5, t6, y0, y1, y2, -⟩ := (HOX.out.below hb7).at_ hx) | fail)
            have st := (HOX.out.below hb7).set hx (own6.rs (b0 := wI.heap.size))
            rw [upd_can, ← HXE.out] at st
            have hb8 := hb6.trans ((hb7.mono (by omega)).trans (below_of_row (b0 := wq.heap.size) st.2 (fun q hq => by injection hq with hq; omega) (by have := hb7.size; omega)))
            have ST2 := Lib.hid st.1
            clear st own6
            go_roundw
            case rel => exact ⟨s + 1, by omega, by go_num, ST2.out, hb8, ST2.out.lt⟩
            case measure => simp [intOf]; omega
          · have hst2 : s = t := by omega
            subst hst2
            have hal : Below wr.heap.size wr (wr.alloc (.cells #[.slice (some ⟨wq.heap.size, 0, none⟩) c c] 23)) := (Below.refl _ _).alloc (Nat.le_refl _) _
            have HOX := Lib.hid ownx
            rw [← HKM.out] at HOX
            have HEL : Hid ((fre p (k + 1)).length = fk + 1) := by
              show _ = _
              rw [HE.out, List.length_append, HFK.out]; rfl
            clear ownx
            go_wp2_with (first | (at_builtin; refine wpList_appM rfl (.tmp 55) (.tmp 57) rfl wI.heap.size A2 d2 fk (fun _ => c) K (by simp [Act.eval]) ((HMO.out.below hb6).below hal) wr.heap.size (by simp [Act.eval]) (some ⟨wq.heap.size, 0, none⟩) c (by simp) (HOX.out.below hal) (by omega) (by simp; omega) ?_; intro A7 d7 w7 own7 hb7) | fail)
            have hb8 : Below wI.heap.size wI w7 := hbh2.trans ((hb6.mono hbhz).trans ((hal.mono (by omega)).trans hb7))
            exact ⟨⟨k + 1, A7, d7, by omega, by go_num, by rw [HEL.out], by rw [HEL.out]; exact own7, hb8⟩, by simp [intOf]; omega⟩
    · have : k = c := by omega
      subst this
      go_wp2
      go_ret
      exact ⟨⟨_, _, rfl, own.mi hb2z⟩, hbw2⟩
end Go.Proofs.YtnljncncnohncaaDoor
