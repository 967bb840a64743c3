/- Contracts of functions and lemmas, used by the proofs of the given statements. No condition beyond those that each lemma names. -/
import Derived.Test.YtedopalmfakeaaaPrW8
namespace Go.Proofs.Ytedopalmfakeaaa
open Go.RowKit Go.Sort
set_option linter.unusedSimpArgs false
set_option linter.unusedVariables false
set_option maxRecDepth 20000
/-! ## package prime: Irredundant -/
theorem cov_rows {S n : Nat} {ev : Nat → Nat} (he : Evs S n ev) {l : List Cn} (hl : ∀ d, d ∈ l → okN d ∧ inS S d) {i : Nat} (hi : i < l.length) {f : Nat → Int} (hf : ∀ r, r < 2 ^ n → f r = (inN l (widN n ev r) : Nat)) :
    (∀ r, RowC n ev (atN l i) r → 1 < f r) ↔ covB (l.eraseIdx i) (atN l i) = true := by
  have hm := hl _ (atN_mem hi)
  rw [rest_covers he.small hl hi]
  constructor
  · intro h t ht hh
    have e := wid_nar he ht
    have h2 := narN_lt n ev t
    rw [← e] at hh ⊢
    have h3 := h _ ((row_hold he hm.2).2 ⟨h2, hh⟩)
    rw [hf _ h2] at h3
    omega
  · intro h r hr
    obtain ⟨h1, h2⟩ := (row_hold he hm.2).1 hr
    have h3 := h _ (widN_sub he r) h2
    rw [hf _ h1]
    omega
theorem grown_cell {w w' : World} {g x o : Nat} {v : Value} (h : w.grownBy w' (some g)) (hx : w.cell? ⟨x, o, none⟩ = some v) (hne : x ≠ g) : w'.cell? ⟨x, o, none⟩ = some v := by
  have e := h.block x (lt_of_cell hx) (fun e => hne (by injection e))
  simp only [World.cell?] at hx ⊢
  rw [e]; exact hx
section
variable {w : World} {A : Option Addr} {c : Nat} {f : FrR}
set_option maxHeartbeats 8000000 in
theorem Irredundant_ok {v : Nat} (h : FrI w A f) (ok : FrOk f) (hv : f.vars = v) (h7 : popc (supF f.fr) ≤ 12) :
    Calls Try.prog 54 #[fv (v : Int) A f.nn c f.top] w fun e w' => (∃ s, PrmS (supF f.fr) f.fr.val s ∧ ((1024 < s.length ∧ e = .returned (.tuple #[.slice none 0 0, .iface 58 (.int .i64 4)])) ∨ (s.length ≤ 1024 ∧ ∃ A c, e = .returned (.tuple #[.slice A (irrN s.length s).length c, .nilIface]) ∧ OwC w' w.heap.size A c ((irrN s.length s).map zc)))) ∧ Below w.heap.size w w' := by
  have hS : supF f.fr < 16777216 := (supF_lt ok hv).2
  have K1 := Lib.hid (fun W (hW : Below w.heap.size w W) => counted_ok (c := c) (h.below hW) ok hv h7)
  have HE := Lib.hid (evL_evs hS)
  have hn12 : (evL (supF f.fr) 24).length ≤ 12 := by rw [evL_pop]; exact h7
  generalize (evL (supF f.fr) 24).length = n at *
  generalize evF (supF f.fr) = ev at *
  generalize supF f.fr = S at *
  generalize f.fr.val = V at *
  generalize f.nn = nn at *
  generalize f.top = tp at *
  clear ok hv h h7
  go_enter Try.func54, Try.ntmps54
  go_wp2_with fail
  refine (K1.out _ (by (skip); repeat' (first | (with_reducible exact Below.refl _ _) | (with_reducible assumption) | (with_reducible refine Below.alloc ?_ ?_ _) | (with_reducible refine Below.drew ?_) | (with_reducible refine below_drewN ?_ _) | (with_reducible refine Below.setCell ?_ ?_ _) | (with_reducible refine Below.trans ?_ (Below.mono (by with_reducible assumption) ?_)) | omega | (simp only [World.size_alloc, World.size_setCell, World.size_drew, size_drewN']; omega) | go_size))).mono ?_
  rintro e w1 ⟨⟨s, hs, ⟨h1, rfl⟩ | ⟨h1, p, A2, c2, g, M, f0, hM, rfl, hC, hF0⟩⟩, hb1⟩
  · have hbz := hb1.size
    simp only [World.size_alloc] at hbz
    have HS := Lib.hid hs
    have HL := Lib.hid h1
    clear hs h1
    go_wp2_with fail
    go_returns
    exact ⟨⟨s, HS.out, .inl ⟨HL.out, rfl⟩⟩, (by have z0 := Below.size hb1; (try simp only [World.size_alloc, World.size_setCell, World.size_drew, size_drewN'] at z0 ⊢; skip); repeat' (first | (with_reducible exact Below.refl _ _) | (with_reducible assumption) | (with_reducible refine Below.alloc ?_ ?_ _) | (with_reducible refine Below.drew ?_) | (with_reducible refine below_drewN ?_ _) | (with_reducible refine Below.setCell ?_ ?_ _) | (with_reducible refine Below.trans ?_ (Below.mono (by with_reducible assumption) ?_)) | omega | (simp only [World.size_alloc, World.size_setCell, World.size_drew, size_drewN']; omega) | go_size))⟩
  · have hbz := hb1.size
    simp only [World.size_alloc] at hbz
    have HS := Lib.hid hs
    have HC := Lib.hid hC
    have HF0 := Lib.hid hF0
    have HM := Lib.hid hM.symm
    clear hs hC hF0 hM
    go_wp2_with fail
    obtain ⟨Bt, Bi, hB0, hBti, hBi, hTab, ownC, hAl, ownF, hBg⟩ := HC.out
    rw [HM.out] at ownF
    simp only [World.size_alloc] at hB0
    have hM0 : 0 < M := by have := Nat.two_pow_pos n; rw [HM.out] at this; exact this
    have hgl := ownF.form0 hM0
    have x5 : (w1.alloc (.cells #[.slice (some ⟨g, 0, none⟩) M M] 71)).cell? ⟨w1.heap.size, 0, none⟩ = some (.slice (some ⟨g, 0, none⟩) M M) := by simp [go_sem]
    have hbe : Below w1.heap.size w1 (w1.alloc (.cells #[.slice (some ⟨g, 0, none⟩) M M] 71)) := (Below.refl _ _).alloc (Nat.le_refl _) _
    have ownF5 := ownF.below hbe
    have ownC5 := ownC.below hbe
    have HTab : Hid (∀ W, Below Bt (w1.alloc (.cells #[.slice (some ⟨g, 0, none⟩) M M] 71)) W → TabI W p n ev (fun t => V (widN n ev t))) := fun W hW => hTab W ((hbe.mono (by omega)).trans hW)
    have hbF : Below w.heap.size w (w1.alloc (.cells #[.slice (some ⟨g, 0, none⟩) M M] 71)) := (by have z0 := Below.size hb1; (try simp only [World.size_alloc, World.size_setCell, World.size_drew, size_drewN'] at z0 ⊢; skip); repeat' (first | (with_reducible exact Below.refl _ _) | (with_reducible assumption) | (with_reducible refine Below.alloc ?_ ?_ _) | (with_reducible refine Below.drew ?_) | (with_reducible refine below_drewN ?_ _) | (with_reducible refine Below.setCell ?_ ?_ _) | (with_reducible refine Below.trans ?_ (Below.mono (by with_reducible assumption) ?_)) | omega | (simp only [World.size_alloc, World.size_setCell, World.size_drew, size_drewN']; omega) | go_size))
    have HAl : Hid (∀ b, A2 = some ⟨b, 0, none⟩ → b < Bi) := fun b e => hAl b (by rw [e]; rfl)
    have hok : ∀ d, d ∈ s → okN d ∧ inS S d := fun d hd => HS.out.ok hd
    have HOK := Lib.hid hok
    obtain ⟨w5, hw5⟩ : ∃ w5, w5 = w1.alloc (.cells #[.slice (some ⟨g, 0, none⟩) M M] 71) := ⟨_, rfl⟩
    rw [← hw5] at x5 ownF5 ownC5 HTab hbF ⊢
    have hz5 : w1.heap.size < w5.heap.size := lt_of_cell x5
    clear hw5 hbe ownF ownC hTab hAl hb1 HC hok
    generalize w1.heap.size = x at *
    clear w1
    go_loopw [5, 8] (fun l i wr => ∃ (k : Nat) (cur : List Cn) (fc : Nat → Int), k ≤ cur.length ∧ cur.length ≤ 1024 ∧ l = .slice A2 cur.length c2 ∧ i = .int .i64 ((k : Int) - 1) ∧ OwC wr Bt A2 c2 (cur.map zc) ∧ OwJ wr Bi (some ⟨g, 0, none⟩) M M fc ∧ wr.cell? ⟨x, 0, none⟩ = some (.slice (some ⟨g, 0, none⟩) M M) ∧ Below Bt w5 wr ∧ (∀ r, r < M → fc r = (inN cur (widN n ev r) : Nat)) ∧ irrN k cur = irrN s.length s ∧ (∀ d, d ∈ cur → d ∈ s)) (fun _ i _ => (intOf i + 1).toNat)
    case atStart => exact ⟨s.length, s, f0, Nat.le_refl _, h1, rfl, rfl, ownC5, ownF5, x5, Below.refl _ _, HF0.out, rfl, fun d hd => hd⟩
    case round =>
      obtain ⟨k, cur, fc, hk, hc24, rfl, rfl, ownC, ownF, x6, hb, hf, hir, hsub⟩ := hrel
      have HF := Lib.hid hf
      have HIR := Lib.hid hir
      have HSUB := Lib.hid hsub
      clear ownF5 ownC5 x5 hf hir hsub
      obtain ⟨wo, rfl⟩ : ∃ wo : World, wo = wr := ⟨_, rfl⟩
      have hbz2 := hb.size
      have hbW : Below w.heap.size w wo := hbF.trans (hb.mono (by omega))
      have hxl := lt_of_cell x6
      have hgo := ownF.form0 hM0
      by_cases hk0 : 0 < k
      · obtain ⟨m, rfl⟩ : ∃ m, k = m + 1 := ⟨k - 1, by omega⟩
        have hm : m < cur.length := by omega
        have e1 : ((m + 1 : Nat) : Int) - 1 = (m : Int) := by omega
        rw [e1]
        obtain ⟨gl, rfl, hgl1, hgl2⟩ := ownC.blk (by intro e; rw [List.map_eq_nil_iff] at e; rw [e] at hm; simp at hm)
        have hglB := HAl.out gl rfl
        have hd := HOK.out _ (HSUB.out _ (atN_mem hm))
        have hcd := hd.1
        obtain ⟨y1, y2⟩ := ownC.cells (k := m) (x := zc (atN cur m)) (by simp [atN_lt hm, hm])
        have HIRR : Hid (irrN (m + 1) cur = irrN m (if covB (cur.eraseIdx m) (atN cur m) then cur.eraseIdx m else cur)) := rfl
        have HCV := Lib.hid (cov_rows HE.out (fun d hd => HOK.out d (HSUB.out d hd)) hm (f := fc) (fun r hr => HF.out r (by rw [← HM.out]; exact hr)))
        have HIN := Lib.hid (fun t => inN_erase (l := cur) (t := t) hm)
        have HRH := Lib.hid (fun r => row_hold (r := r) HE.out hd.2)
        have HER : Hid (∀ d, d ∈ cur.eraseIdx m → d ∈ s) := fun d h => HSUB.out d (mem_erase h)
        have HEL : Hid ((cur.eraseIdx m).length = cur.length - 1) := List.length_eraseIdx_of_lt hm
        have HTw : Hid (∀ W, Below wo.heap.size wo W → TabI W p n ev (fun t => V (widN n ev t))) := fun W hW => HTab.out W (hb.trans (hW.mono (by omega)))
        have HIL := Lib.hid (fun t => inN_le cur t)
        generalize hcd' : atN cur m = cd at *
        clear hcd'
        obtain ⟨d1, d2⟩ := cd
        have KM := Lib.hid (fun W (hW : Below wo.heap.size wo W) => rows_more (w := W) (B := Bi) (f := fc) 90 (HTw.out W hW) hn12 HE.out.lt hcd ((below_at hW x 0 hxl).trans x6) (ownF.below hW) HM.out (fun _ _ => rfl) (fun W r v h1 h2 h3 => irr1_any h1 h2 h3))
        have KC := Lib.hid (fun W (hW : Below wo.heap.size wo W) => rows_chg (w := W) (B := Bi) (f := fc) (-1) 91 (HTw.out W hW) hn12 HE.out.lt hcd ((below_at hW x 0 hxl).trans x6) (ownF.below hW) HM.out (by omega) (fun r hr => by
          have h0 := HF.out r (by rw [← HM.out]; exact hr.1)
          have h1 := HIL.out (widN n ev r)
          omega) (by have := hW.size; omega) (fun _ _ => rfl) (fun W r f h1 h2 h3 h4 => irr2_any h1 h2 h3 (by omega) hBg h4))
        have HOC := Lib.hid ownC
        clear hd hcd ownC
        go_wp2_with fail
        refine (KM.out _ (by (skip); repeat' (first | (with_reducible exact Below.refl _ _) | (with_reducible assumption) | (with_reducible refine Below.alloc ?_ ?_ _) | (with_reducible refine Below.drew ?_) | (with_reducible refine below_drewN ?_ _) | (with_reducible refine Below.setCell ?_ ?_ _) | (with_reducible refine Below.trans ?_ (Below.mono (by with_reducible assumption) ?_)) | omega | (simp only [World.size_alloc, World.size_setCell, World.size_drew, size_drewN']; omega) | go_size))).mono ?_
        rintro e w7 ⟨⟨bv, rfl, hbv⟩, hb7⟩
        have hb7z := hb7.size
        simp only [World.size_alloc] at hb7z
        have hb7o : Below wo.heap.size wo w7 := (by have z0 := Below.size hb7; (try simp only [World.size_alloc, World.size_setCell, World.size_drew, size_drewN'] at z0 ⊢; skip); repeat' (first | (with_reducible exact Below.refl _ _) | (with_reducible assumption) | (with_reducible refine Below.alloc ?_ ?_ _) | (with_reducible refine Below.drew ?_) | (with_reducible refine below_drewN ?_ _) | (with_reducible refine Below.setCell ?_ ?_ _) | (with_reducible refine Below.trans ?_ (Below.mono (by with_reducible assumption) ?_)) | omega | (simp only [World.size_alloc, World.size_setCell, World.size_drew, size_drewN']; omega) | go_size))
        have e8 : Hid (bv = covB (cur.eraseIdx m) (d1, d2)) := by
          show _ = _
          rw [Bool.eq_iff_iff, hbv, HCV.out]
        clear hbv HCV
        have z1 := (below_at hb7 wo.heap.size 0 (by simp)).trans (show (wo.alloc (.cells #[.int .i64 (d1 : Int), .int .i64 (d2 : Int)] 23)).cell? ⟨wo.heap.size, 0, none⟩ = some (.int .i64 (d1 : Int)) by simp [go_sem])
        have z2 := (below_at hb7 wo.heap.size 1 (by simp)).trans (show (wo.alloc (.cells #[.int .i64 (d1 : Int), .int .i64 (d2 : Int)] 23)).cell? ⟨wo.heap.size, 1, none⟩ = some (.int .i64 (d2 : Int)) by simp [go_sem])
        have x7 := (below_at hb7o x 0 hxl).trans x6
        have ownF7 := ownF.below hb7o
        have ownC7 := HOC.out.below hb7o
        cases bv
        · have HR : Hid (irrN m cur = irrN s.length s) := by
            show _ = _
            rw [← HIR.out, HIRR.out, ← e8.out]
            simp
          clear KM KC e8 HIRR
          go_wp2_with fail
          go_roundw
          case rel => exact ⟨m, cur, fc, by omega, hc24, rfl, rfl, ownC7, ownF7, x7, hb.trans (hb7o.mono (by omega)), HF.out, HR.out, HSUB.out⟩
          case measure => simp [intOf]
        · have HR : Hid (irrN m (cur.eraseIdx m) = irrN s.length s) := by
            show _ = _
            rw [← HIR.out, HIRR.out, ← e8.out]
            simp
          have HOC7 := Lib.hid ownC7
          clear KM e8 HIRR ownC7 ownF7
          go_wp2_with fail
          refine (KC.out _ hb7o).mono ?_
          rintro e w8 ⟨⟨rfl, fd, own8, x8, he⟩, hb8⟩
          have hb8z := hb8.size
          have HFD : Hid (∀ r, r < M → fd r = (inN (cur.eraseIdx m) (widN n ev r) : Nat)) := fun r hr => by
            have h0 := HF.out r hr
            have h1 := HIN.out (widN n ev r)
            by_cases hrr : hoN (d1, d2) (widN n ev r) = true
            · rw [(he r).1 ((HRH.out r).2 ⟨by rw [HM.out]; exact hr, hrr⟩), h0]
              rw [hrr] at h1
              simp at h1
              omega
            · rw [(he r).2 (fun hh => hrr ((HRH.out r).1 hh).2), h0]
              rw [if_neg hrr] at h1
              omega
          have ownC8 : OwC w8 Bt (some ⟨gl, 0, none⟩) c2 (cur.map zc) := own_belowB HOC7.out (fun k e => by
            have : gl = k := by injection e
            omega) hb8
          have hbT8 : Below Bt w5 w8 := (hb.trans (hb7o.mono (by omega))).trans (hb8.mono hBti)
          have KD := Lib.hid (show Calls Try.prog 92 #[.slice (some ⟨gl, 0, none⟩) cur.length c2, .int .i64 (m : Int), .int .i64 ((m : Int) + 1)] w8 _ from deleteC_any ownC8 hm hc24)
          clear he KC ownC8 HOC HOC7 hb8 z1 z2 x7 y1 y2
          have im1 : IntKind.i64.wrap ((m : Int) + 1) = (m : Int) + 1 := by rw [IntKind.wrap_i64]; omega
          go_wp2_with fail
          refine KD.out.mono ?_
          rintro e w9 ⟨rfl, own9, gr9⟩
          have x9 := grown_cell gr9 x8 (by omega)
          have ownF9 : OwJ w9 Bi (some ⟨g, 0, none⟩) M M fd := World.ownsRow.kept own8 gr9 (.inr (fun e => by
            have : g = gl := by injection e
            omega))
          have hbT9 : Below Bt w5 w9 := hbT8.trans ((Below.refl _ _).grown gr9 (by omega) fun k hk => by
            have : gl = k := by injection hk
            omega)
          have HO9 := Lib.hid own9
          clear own9 KD
          go_wp2_with fail
          go_roundw
          case rel => exact ⟨m, cur.eraseIdx m, fd, by rw [HEL.out]; omega, by rw [HEL.out]; omega, by rw [HEL.out], rfl, HO9.out, ownF9, x9, hbT9, HFD.out, HR.out, HER.out⟩
          case measure => simp [intOf]
      · obtain rfl : k = 0 := by omega
        have HE0 : Hid (cur = irrN s.length s) := HIR.out
        go_wp2
        go_returns
        exact ⟨⟨s, HS.out, .inr ⟨h1, A2, c2, by rw [← HE0.out]; rfl, by rw [← HE0.out]; exact ownC.base_ (by omega)⟩⟩, hbW⟩
end
end Go.Proofs.Ytedopalmfakeaaa
