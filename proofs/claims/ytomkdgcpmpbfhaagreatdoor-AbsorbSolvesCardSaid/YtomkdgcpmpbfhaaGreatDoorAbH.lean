/- Contracts of functions and lemmas, used by the proofs of the given statements. No condition beyond those that each lemma names. -/
import Derived.Test.YtomkdgcpmpbfhaaGreatDoorAbG
namespace Go.Proofs.YtomkdgcpmpbfhaaGreatDoor
open Go.RowKit
set_option linter.unusedSimpArgs false
set_option linter.unusedVariables false
set_option maxRecDepth 20000
attribute [local irreducible] nv wp win plainB validR valR canR mvE chkM codeC spr sprN chg cnt gj
/-! ## reference: Live, Times, Visits -/
section
variable {w : World} {AM AD : Option Addr} {cm cd : Nat} {c : Chn}
theorem outN_0 {n : Nat} : outN' 0 n = n := by unfold outN'; rw [if_pos rfl]
theorem outN_n {code : Int} {n : Nat} (h : code ≠ 0) : outN' code n = 0 := by unfold outN'; rw [if_neg h]
set_option maxHeartbeats 4000000 in
theorem rLive_any (h : ChI w w.heap.size AM cm AD cd c) (hs : SysS c) :
    Calls Tryz.prog 13 #[cv c.st c.sr AM c.nm cm AD c.nd cd] w fun e w' => AnsB intV (outN' c.codeA c.nd) c.lv c.codeA e w' ∧ Below w.heap.size w w' := by
  have K1 := Lib.hid (fun W (hb : Below w.heap.size w W) => rerror_any (h.below hb) hs.ch)
  by_cases h0 : c.codeA = 0
  · have K2 := Lib.hid (fun W (hb : Below w.heap.size w W) => rlive_any (h.below hb) (Chn.codeA_ok h0) hs.ch.nm)
    rw [h0] at K1 ⊢
    rw [outN_0]
    clear h0 h hs
    have HPC := Lib.hid (fun W hb => par_cells (W := W) (w := w) (a := .int .i64 c.st) (b := .int .i64 c.sr) (d := .slice AM c.nm cm) (e := .slice AD c.nd cd) (t := 25) hb)
    go_enter Tryz.func13, Tryz.ntmps13
    (go_wp2_with fail; (with_reducible refine (K1.out _ (by (skip); repeat' (first | (with_reducible exact Below.refl _ _) | (with_reducible assumption) | (with_reducible refine Below.alloc ?_ ?_ _) | (with_reducible refine Below.drew ?_) | (with_reducible refine below_drewN ?_ _) | (with_reducible refine Below.setCell ?_ ?_ _) | (with_reducible refine Below.trans ?_ (Below.mono (by with_reducible assumption) ?_)) | omega | (simp only [World.size_alloc, World.size_setCell, World.size_drew, size_drewN']; omega) | go_size))).mono ?_); rintro e w1 ⟨rfl, hb1⟩; have hb1z := Below.size hb1; (try simp only [World.size_alloc, World.size_setCell, World.size_drew, size_drewN'] at hb1z))
    have hb1' : Below (w.heap.size + 1) (w.alloc (.cells #[.int .i64 c.st, .int .i64 c.sr, .slice AM c.nm cm, .slice AD c.nd cd] 25)) w1 := by simpa using hb1
    obtain ⟨y0, y1, y2, y3⟩ := HPC.out _ hb1'
    have hbw := par_below hb1'
    have HBW := Lib.hid hbw
    clear hb1 hb1' hbw
    (go_wp2_with fail; (with_reducible refine (K2.out _ HBW.out).mono ?_); rintro e w2 ⟨⟨A2, c2, rfl, own⟩, hb2⟩; have hb2z := Below.size hb2; (try simp only [World.size_alloc, World.size_setCell, World.size_drew, size_drewN'] at hb2z))
    have HM := Lib.hid own.mk
    have HB2 := Lib.hid (HBW.out.trans (hb2.mono HBW.out.size))
    clear own hb2
    go_wp2
    go_ret2
    exact ⟨⟨_, _, rfl, HM.out⟩, HB2.out⟩
  · have HC := Lib.hid h0
    have e9 := outN_n (n := c.nd) h0
    obtain ⟨ca, hca⟩ : ∃ ca, ca = c.codeA := ⟨_, rfl⟩
    rw [e9]
    rw [← hca] at K1 HC h0 ⊢
    have e5 : (ca != 0) = true := by simpa using h0
    have e6 : (ca == 0) = false := by simpa using h0
    clear e9 h0 hca h hs HC
    go_enter Tryz.func13, Tryz.ntmps13
    (go_wp2_with fail; (with_reducible refine (K1.out _ (by (skip); repeat' (first | (with_reducible exact Below.refl _ _) | (with_reducible assumption) | (with_reducible refine Below.alloc ?_ ?_ _) | (with_reducible refine Below.drew ?_) | (with_reducible refine below_drewN ?_ _) | (with_reducible refine Below.setCell ?_ ?_ _) | (with_reducible refine Below.trans ?_ (Below.mono (by with_reducible assumption) ?_)) | omega | (simp only [World.size_alloc, World.size_setCell, World.size_drew, size_drewN']; omega) | go_size))).mono ?_); rintro e w1 ⟨rfl, hb1⟩; have hb1z := Below.size hb1; (try simp only [World.size_alloc, World.size_setCell, World.size_drew, size_drewN'] at hb1z))
    go_wp2
    go_ret2
    exact ⟨⟨_, _, rfl, MkI.nil_ _ _⟩, (by have z0 := Below.size hb1; (try simp only [World.size_alloc, World.size_setCell, World.size_drew, size_drewN'] at z0 ⊢; skip); repeat' (first | (with_reducible exact Below.refl _ _) | (with_reducible assumption) | (with_reducible refine Below.alloc ?_ ?_ _) | (with_reducible refine Below.drew ?_) | (with_reducible refine below_drewN ?_ _) | (with_reducible refine Below.setCell ?_ ?_ _) | (with_reducible refine Below.trans ?_ (Below.mono (by with_reducible assumption) ?_)) | omega | (simp only [World.size_alloc, World.size_setCell, World.size_drew, size_drewN']; omega) | go_size))⟩
set_option maxHeartbeats 8000000 in
theorem rTimes_any (h : ChI w w.heap.size AM cm AD cd c) (hs : SysS c) :
    Calls Tryz.prog 14 #[cv c.st c.sr AM c.nm cm AD c.nd cd] w fun e w' => AnsV intV (outN' c.codeA c.nd) c.times c.codeA e w' ∧ Below w.heap.size w w' := by
  have K1 := Lib.hid (fun W (hb : Below w.heap.size w W) => rerror_any (h.below hb) hs.ch)
  by_cases h0 : c.codeA = 0
  · have ok := Chn.codeA_ok h0
    have hn1 := ok.lo
    have hn9 := hs.nd ok
    have hst := ok.st
    have hyr : onL c.lv (fun i => if i < c.nd then 1 else 0) = onL c.lv (c.rhs false) := by
      funext i
      unfold onL
      cases hl : c.lv i
      · simp
      · rw [if_pos rfl, if_pos rfl]
        show (if i < c.nd then (1 : Rat) else 0) = c.rhs false i
        rw [if_pos (Chn.lv_ln ok i hl)]
        rfl
    have hys : ∀ i, Sz 400 ((fun i => if i < c.nd then 1 else 0 : Nat → Rat) i) := fun i => by
      show Sz 400 (if i < c.nd then 1 else 0)
      split
      · exact Sz.one (by omega)
      · exact Sz.zero (by omega)
    have KS := Lib.hid (fun W B g (hb : Below w.heap.size w W) (hB1 : w.heap.size ≤ B) (hB : B ≤ W.heap.size) (hy : OwR W B (some ⟨g, 0, none⟩) c.nd c.nd (can (fun i => if i < c.nd then 1 else 0))) => rsolveA_any false ((h.kp (Kp.of_below hb)).base hB1) hB hs h0 hy hys hyr)
    have hx : c.sol false = c.times := rfl
    rw [hx] at KS
    rw [hst] at K1 KS
    rw [h0] at K1 ⊢
    rw [outN_0, hst]
    obtain ⟨TI, hTI⟩ : ∃ TI, TI = c.times := ⟨_, rfl⟩
    rw [← hTI] at KS ⊢
    obtain ⟨sr, hsr⟩ : ∃ sr, sr = c.sr := ⟨_, rfl⟩
    rw [← hsr] at K1 KS ⊢
    clear hsr hTI hx hys hyr hst ok h0 h hs
    have HPC := Lib.hid (fun W hb => par_cells (W := W) (w := w) (a := .int .i64 (c.nd : Int)) (b := .int .i64 sr) (d := .slice AM c.nm cm) (e := .slice AD c.nd cd) (t := 25) hb)
    have HPB := Lib.hid (fun W hb => par_below (W := W) (w := w) (o := .cells #[.int .i64 (c.nd : Int), .int .i64 sr, .slice AM c.nm cm, .slice AD c.nd cd] 25) hb)
    go_enter Tryz.func14, Tryz.ntmps14
    (go_wp2_with fail; (with_reducible refine (K1.out _ (by (skip); repeat' (first | (with_reducible exact Below.refl _ _) | (with_reducible assumption) | (with_reducible refine Below.alloc ?_ ?_ _) | (with_reducible refine Below.drew ?_) | (with_reducible refine below_drewN ?_ _) | (with_reducible refine Below.setCell ?_ ?_ _) | (with_reducible refine Below.trans ?_ (Below.mono (by with_reducible assumption) ?_)) | omega | (simp only [World.size_alloc, World.size_setCell, World.size_drew, size_drewN']; omega) | go_size))).mono ?_); rintro e w1 ⟨rfl, hb1⟩; have hb1z := Below.size hb1; (try simp only [World.size_alloc, World.size_setCell, World.size_drew, size_drewN'] at hb1z))
    have HB1 : Hid (Below (w.heap.size + 1) (w.alloc (.cells #[.int .i64 (c.nd : Int), .int .i64 sr, .slice AM c.nm cm, .slice AD c.nd cd] 25)) w1) := by show Below _ _ _; simpa using hb1
    have hz1 := HB1.out.size
    simp only [World.size_alloc] at hz1
    clear hb1
    generalize w.alloc (.cells #[.int .i64 (c.nd : Int), .int .i64 sr, .slice AM c.nm cm, .slice AD c.nd cd] 25) = W0 at *
    obtain ⟨y0, -, -, -⟩ := HPC.out _ HB1.out
    go_wp2_with (first | (at_make; refine wpList_makeR rfl (.tmp 13) (.tmp 13) rfl w1.heap.size c.nd (c.nd : Int) (c.nd : Int) (by first | rfl | simp [Act.eval]) (by first | rfl | simp [Act.eval]) rfl rfl (by omega) (Nat.le_refl _) ?_; intro w2 own2 hb2) | fail)
    have HO2 : Hid (OwR w2 w1.heap.size (some ⟨w1.heap.size, 0, none⟩) c.nd c.nd (can (fun i => if i < 0 then 1 else 0))) := own2.congr fun s hs => by show canR _ = canR _; simp
    have HB2 := Lib.hid hb2
    clear own2 hb2 y0
    go_loopw [17] (fun i wr => ∃ k : Nat, k ≤ c.nd ∧ i = .int .i64 (k : Int) ∧ OwR wr w1.heap.size (some ⟨w1.heap.size, 0, none⟩) c.nd c.nd (can (fun i => if i < k then 1 else 0)) ∧ Below w1.heap.size w1 wr) (fun i _ => c.nd - (intOf i).toNat)
    case atStart => exact ⟨0, Nat.zero_le _, rfl, HO2.out, HB2.out⟩
    case round =>
      clear HO2 HB2
      obtain ⟨k, hk, rfl, own, hb⟩ := hrel
      have hz := hb.size
      by_cases hlt : k < c.nd
      · have hfz := own.frozen
        have hgl := own.lt
        obtain ⟨t0, t1, t2, t3, t4, t5, t6, o0, o1, o2, -⟩ := own.at_ hlt
        have hki : (k : Int) < (c.nd : Int) := by omega
        have hk0 : (0 : Int) ≤ (k : Int) := by omega
        have HO := Lib.hid own
        have HB := Lib.hid hb
        clear own hb
        (go_wp2_with fail; (with_reducible refine (rofOne _).mono ?_); rintro e w6 ⟨⟨v6, rfl, own6⟩, hb6⟩; have hb6z := Below.size hb6; (try simp only [World.size_alloc, World.size_setCell, World.size_drew, size_drewN'] at hb6z); have hb6c0 := fun o => below_at hb6 (w1.heap.size) o (by first | omega | (simp only [World.size_alloc, World.size_setCell, World.size_drew, size_drewN']; omega)); have hb6f0 := fun o => below_fr hb6 (w1.heap.size) o (by first | omega | (simp only [World.size_alloc, World.size_setCell, World.size_drew, size_drewN']; omega)))
        obtain ⟨s4, A6, n6, c6, B6, m6, d6, rfl⟩ := own6.form
        have st := (HO.out.below hb6).set hlt (own6.rs (b0 := w1.heap.size))
        have hbz := (HB.out.trans (hb6.mono hz)).trans (below_of_row st.2 (fun q hq => by injection hq with hq; omega) (by have := hb6.size; omega))
        have HS := Lib.hid (st.1.congr (U := can (fun i => if i < k + 1 then 1 else 0)) fun s hs => by
          rw [upd_can]
          show canR _ = canR _
          unfold upd
          by_cases e : s = k
          · simp [e]
          · by_cases e2 : s < k
            · simp [e, e2, show s < k + 1 by omega]
            · simp [e, e2, show ¬ s < k + 1 by omega])
        have HBZ := Lib.hid hbz
        clear st hbz own6
        go_wp2
        go_roundw
        case rel => exact ⟨k + 1, by omega, by go_num, HS.out, HBZ.out⟩
        case measure => simp [intOf]; omega
      · have hkm : k = c.nd := by omega
        subst hkm
        have HO := Lib.hid own
        have hbW := HPB.out _ (HB1.out.trans (hb.mono (by omega)))
        have HBW := Lib.hid hbW
        have HBR := Lib.hid hb
        obtain ⟨y0, y1, y2, y3⟩ := HPC.out _ (HB1.out.trans (hb.mono (by omega)))
        clear own hb hbW
        have KS2 := KS.out wr w1.heap.size w1.heap.size HBW.out (by omega) hz HO.out
        go_wp2_with fail
        (with_reducible refine KS2.mono ?_)
        rintro e w7 ⟨⟨A7, d7, rfl, r7⟩, hb7⟩
        have HR7 := Lib.hid r7
        have HB7 := Lib.hid ((HPB.out _ HB1.out).trans ((HBR.out.trans hb7).mono (by omega)))
        clear r7 hb7
        go_wp2
        go_ret2
        exact ⟨⟨_, _, rfl, HR7.out⟩, HB7.out⟩
  · have HC := Lib.hid h0
    have e9 := outN_n (n := c.nd) h0
    obtain ⟨ca, hca⟩ : ∃ ca, ca = c.codeA := ⟨_, rfl⟩
    rw [e9]
    rw [← hca] at K1 HC h0 ⊢
    have e5 : (ca != 0) = true := by simpa using h0
    have e6 : (ca == 0) = false := by simpa using h0
    clear e9 h0 hca h hs HC
    go_enter Tryz.func14, Tryz.ntmps14
    (go_wp2_with fail; (with_reducible refine (K1.out _ (by (skip); repeat' (first | (with_reducible exact Below.refl _ _) | (with_reducible assumption) | (with_reducible refine Below.alloc ?_ ?_ _) | (with_reducible refine Below.drew ?_) | (with_reducible refine below_drewN ?_ _) | (with_reducible refine Below.setCell ?_ ?_ _) | (with_reducible refine Below.trans ?_ (Below.mono (by with_reducible assumption) ?_)) | omega | (simp only [World.size_alloc, World.size_setCell, World.size_drew, size_drewN']; omega) | go_size))).mono ?_); rintro e w1 ⟨rfl, hb1⟩; have hb1z := Below.size hb1; (try simp only [World.size_alloc, World.size_setCell, World.size_drew, size_drewN'] at hb1z))
    go_wp2
    go_ret2
    exact ⟨⟨_, _, rfl, RowA.nil_ _ _ _ _⟩, (by have z0 := Below.size hb1; (try simp only [World.size_alloc, World.size_setCell, World.size_drew, size_drewN'] at z0 ⊢; skip); repeat' (first | (with_reducible exact Below.refl _ _) | (with_reducible assumption) | (with_reducible refine Below.alloc ?_ ?_ _) | (with_reducible refine Below.drew ?_) | (with_reducible refine below_drewN ?_ _) | (with_reducible refine Below.setCell ?_ ?_ _) | (with_reducible refine Below.trans ?_ (Below.mono (by with_reducible assumption) ?_)) | omega | (simp only [World.size_alloc, World.size_setCell, World.size_drew, size_drewN']; omega) | go_size))⟩
end
end Go.Proofs.YtomkdgcpmpbfhaaGreatDoor
