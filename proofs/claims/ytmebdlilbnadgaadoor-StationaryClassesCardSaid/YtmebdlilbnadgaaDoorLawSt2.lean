/- Contracts of functions and lemmas, used by the proofs of the given statements. No condition beyond those that each lemma names. -/
import Derived.Test.YtmebdlilbnadgaaDoorStaCl
import Derived.Test.YtmebdlilbnadgaaDoorStaAw
import Derived.Test.YtmebdlilbnadgaaDoorStaZ
import Derived.Test.YtmebdlilbnadgaaDoorBis
namespace Go.Proofs.YtmebdlilbnadgaaDoor
open Go.RowKit
set_option linter.unusedSimpArgs false
set_option linter.unusedVariables false
set_option maxRecDepth 20000
attribute [local irreducible] nv wp win plainB validR valR canR mvE chkM codeC spr sprN chg cnt cntB ixB kept netS sumN dsum floG staX
/-! ## StationaryClasses -/
set_option maxHeartbeats 32000000 in
theorem stationaryClasses_law {w : World} {AM AD : Option Addr} {cm cd : Nat} {c : Chn} (h : ChI w w.heap.size AM cm AD cd c) :
    Calls Tryd.prog 3 #[cv c.st c.sr AM c.nm cm AD c.nd cd] w fun e w' => e = .returned (.bool true) ∧ Below w.heap.size w w' := by
  have KF := Lib.hid (fun W (hb : Below w.heap.size w W) => valid52_any (h.below hb))
  have hbA : Below w.heap.size w (w.alloc (.cells #[.int .i64 c.st, .int .i64 c.sr, .slice AM c.nm cm, .slice AD c.nd cd] 25)) := (Below.refl _ _).alloc (Nat.le_refl _) _
  have HBA := Lib.hid hbA
  have HI := Lib.hid h
  clear h hbA
  go_enter Tryd.func3, Tryd.ntmps3
  (go_wp2_with fail; (with_reducible refine (KF.out _ HBA.out).mono ?_); rintro e w1 ⟨⟨bb, rfl, hbb⟩, hb1⟩; have hb1z := Below.size hb1; (try simp only [ZA, ZS, ZD, ZN] at hb1z); have hb1c0 := fun o => below_at hb1 (w.heap.size) o (by first | omega | (simp only [ZA, ZS, ZD, ZN]; omega)); have hb1f0 := fun o => below_fr hb1 (w.heap.size) o (by first | omega | (simp only [ZA, ZS, ZD, ZN]; omega)))
  have hB1 : Below w.heap.size w w1 := HBA.out.trans (hb1.mono (by simp))
  cases bb with
  | false =>
    clear hbb
    (go_wp2_with fail; (with_reducible refine (awake52_any _).mono ?_); rintro e w2 ⟨rfl, hb2⟩; have hb2z := Below.size hb2; (try simp only [ZA, ZS, ZD, ZN] at hb2z))
    go_wp2
    go_ret
    exact ⟨rfl, hB1.trans (hb2.mono hB1.size)⟩
  | true =>
    have HF := Lib.hid (hbb rfl)
    clear hbb
    have hw1 : w.heap.size < w1.heap.size := by have := hb1.size; simp at this; omega
    have hS := HF.out.1.small HI.out
    have h0 := HF.out.2
    have ok := Chn.ok_iff.1 h0
    have hn9 := hS.nd ok
    have hnm := hS.nm
    have hst := Lib.hid ok.st
    obtain ⟨X, hX⟩ : ∃ X, X = c.pi := ⟨_, rfl⟩
    obtain ⟨LL, hLL⟩ : ∃ LL, LL = c.clL := ⟨_, rfl⟩
    obtain ⟨nc, hnc⟩ : ∃ nc, nc = c.ncl := ⟨_, rfl⟩
    obtain ⟨MK, hMK⟩ : ∃ MK, MK = c.mrk := ⟨_, rfl⟩
    obtain ⟨MT, hMT⟩ : ∃ MT, MT = c.mrt := ⟨_, rfl⟩
    obtain ⟨M, hM⟩ : ∃ M, M = 21400000 := ⟨_, rfl⟩
    have K3 : Hid (∀ W, Below w.heap.size w W → Calls Tryd.prog 6 #[cv c.st c.sr AM c.nm cm AD c.nd cd] W fun e w' => (∃ A d, e = .returned (.tuple #[.slice A nc d, .nilIface]) ∧ RwL w' 0 A d nc LL) ∧ Below W.heap.size W w') := fun W hb => by
      have := Closed_any (HI.out.below hb) hS.sizP
      rw [h0, outS_0, ← hLL, ← hnc] at this
      refine this.mono fun e w' ⟨h1, h2⟩ => ⟨?_, h2⟩
      obtain ⟨A, d, e1, r⟩ := h1
      rw [errM_0] at e1
      exact ⟨A, d, e1, r⟩
    have KY : Hid (nc = 1 → ∀ W, Below w.heap.size w W → Calls Tryd.prog 7 #[cv c.st c.sr AM c.nm cm AD c.nd cd] W fun e w' => (∃ A d, e = .returned (.tuple #[.slice A c.nd d, .nilIface]) ∧ RowA w' w'.heap.size A c.nd (can X)) ∧ Below W.heap.size W w') := fun h1 W hb => by
      rw [hX]
      exact solve_ok (HI.out.below hb) hS.sizP h0 (by rw [← hnc]; exact h1)
    have KN : Hid (nc ≠ 1 → ∀ W, Below w.heap.size w W → Calls Tryd.prog 7 #[cv c.st c.sr AM c.nm cm AD c.nd cd] W fun e w' => (∃ A d, e = .returned (.tuple #[.slice A 0 d, .iface 43 (.int .i64 16)])) ∧ Below W.heap.size W w') := fun h1 W hb =>
      solve_no (HI.out.below hb) hS.sizP h0 (by rw [← hnc]; exact h1)
    have hnp : 0 < nc := by rw [hnc]; exact Chn.ncl_pos ok
    have hnl : nc ≤ 300 := by have : c.ncl ≤ c.nd := cntB_le; omega
    have HLP : Hid (∀ k, k < nc → 0 < (LL k).length) := fun k hk => by rw [hLL]; exact Chn.clL_pos (by omega)
    have HLE : Hid (∀ k, (LL k).length ≤ c.nd) := fun k => by
      rw [hLL]
      unfold Chn.clL
      rw [kept_len]
      exact cntB_le
    have HMT : Hid (∀ k t (hk : k < nc) (ht : t < (LL k).length), (LL k)[t] < c.nd ∧ MT k t ((LL k)[t]) = 0 ∧ (∀ h : 0 < t, (LL k)[t - 1]'(by omega) < (LL k)[t]) ∧ ∀ j, j < c.nd → upd (MT k t) ((LL k)[t]) (k + 1) j = MT k (t + 1) j) := by
      rw [hMT, hLL]
      exact fun k t hk ht => Chn.mrt_s ok (by omega) ht
    have HMT0 : Hid (∀ k, MT k 0 = MK k) := fun k => by rw [hMT, hMK]; exact Chn.mrt_0 k
    have HMTn : Hid (∀ k s, s < c.nd → MT k (LL k).length s = MK (k + 1) s) := fun k s hs => by rw [hMT, hMK, hLL]; exact Chn.mrt_n k s hs
    have HMK0 : Hid (MK 0 = fun _ => 0) := by show MK 0 = _; rw [hMK]; rfl
    have HSH : Hid (∀ k, k < c.nm → MK nc (c.f k) ≠ 0 → MK nc (c.t k) = MK nc (c.f k)) := fun k hk => by rw [hMK, hnc]; exact Chn.mrk_shut ok hk
    have HPI : Hid (nc = 1 → ∀ s, s < c.nd → 0 ≤ X s ∧ (0 < X s ↔ MK nc s ≠ 0)) := fun h1 s hs => by rw [hMK, hnc, hX]; exact Chn.mrk_pi ok (by rw [← hnc]; exact h1) hs
    have HXS : Hid (∀ s, Sz M (X s)) := fun s => by rw [hX, hM]; exact hS.pi_sz ok s
    have HMV := Lib.hid (fun W hb k hk => HI.out.mv_later (W := W) ok hb (k := k) hk)
    have hML : 400 ≤ M ∧ M ≤ 1000000000 := by omega
    clear hX hLL hnc hMK hMT hM hS h0 ok HF HI KF HBA
    (go_wp2_with fail; (with_reducible refine (awake52_any _).mono ?_); rintro e w2 ⟨rfl, hb2⟩; have hb2z := Below.size hb2; (try simp only [ZA, ZS, ZD, ZN] at hb2z); have hb2c0 := fun o => below_at hb2 (w.heap.size) o (by first | omega | (simp only [ZA, ZS, ZD, ZN]; omega)); have hb2f0 := fun o => below_fr hb2 (w.heap.size) o (by first | omega | (simp only [ZA, ZS, ZD, ZN]; omega)))
    have hB2 : Below w.heap.size w w2 := hB1.trans (hb2.mono hB1.size)
    (go_wp2_with fail; (with_reducible refine (K3.out _ hB2).mono ?_); rintro e w3 ⟨⟨A3, c3, rfl, r3⟩, hb3⟩; have hb3z := Below.size hb3; (try simp only [ZA, ZS, ZD, ZN] at hb3z); have hb3c0 := fun o => below_at hb3 (w.heap.size) o (by first | omega | (simp only [ZA, ZS, ZD, ZN]; omega)); have hb3f0 := fun o => below_fr hb3 (w.heap.size) o (by first | omega | (simp only [ZA, ZS, ZD, ZN]; omega)))
    have hB3 : Below w.heap.size w w3 := hB2.trans (hb3.mono hB2.size)
    have hw3 : w.heap.size < w3.heap.size := by have := hb2.size; have := hb3.size; omega
    have e1 : ((nc : Int) == 0) = false := by simp; omega
    have u0 : ∀ i, w3.cell? ⟨w.heap.size, i, none⟩ = (w.alloc (.cells #[.int .i64 c.st, .int .i64 c.sr, .slice AM c.nm cm, .slice AD c.nd cd] 25)).cell? ⟨w.heap.size, i, none⟩ := fun i => by rw [hb3c0, hb2c0, hb1c0]
    have y0 : w3.cell? ⟨w.heap.size, 0, none⟩ = some (.int .i64 (c.nd : Int)) := by rw [u0, ← hst.out]; simp
    have y1 : w3.cell? ⟨w.heap.size, 1, none⟩ = some (.int .i64 c.sr) := by rw [u0]; simp
    have y2 : w3.cell? ⟨w.heap.size, 2, none⟩ = some (.slice AM c.nm cm) := by rw [u0]; simp
    have y3 : w3.cell? ⟨w.heap.size, 3, none⟩ = some (.slice AD c.nd cd) := by rw [u0]; simp
    have HB3 := Lib.hid hB3
    have HL := Lib.hid r3
    clear r3 K3 u0 hb1 hb2 hb3 hb1c0 hb2c0 hb3c0 hb1f0 hb2f0 hb3f0 hB1 hB2 hB3
    go_wp2_with (first | (at_make; refine wpList_makeZ rfl (.tmp 37) (.tmp 37) rfl w3.heap.size c.nd (c.nd : Int) (c.nd : Int) (by first | rfl | simp [Act.eval]) (by first | rfl | simp [Act.eval]) rfl rfl (by omega) (Nat.le_refl _) ?_; intro w4 own4 hb4) | fail)
    go_loopw [41] (fun i wr => ∃ k : Nat, k ≤ nc ∧ i = .int .i64 (k : Int) ∧ OwZ wr w3.heap.size (some ⟨w3.heap.size, 0, none⟩) c.nd c.nd (MK k) ∧ Below w3.heap.size w3 wr) (fun i _ => nc - (intOf i).toNat)
    case atStart => exact ⟨0, Nat.zero_le _, rfl, by rw [HMK0.out]; exact own4, hb4⟩
    case round =>
      obtain ⟨k, hk, rfl, own, hb⟩ := hrel
      have hz := hb.size
      clear own4 hb4
      by_cases hlt : k < nc
      · obtain ⟨ga, Ai, ci, rfl, hga, -, f0, r0⟩ := HL.out.at_ hlt
        have x0 := (hb.cell (lt_of_cell f0)).trans f0
        have hlp := HLP.out k hlt
        have hle := HLE.out k
        have hki : (k : Int) < (nc : Int) := by omega
        have hk0 : (0 : Int) ≤ (k : Int) := by omega
        obtain ⟨L, hL⟩ : ∃ L, L = LL k := ⟨_, rfl⟩
        have R0 := Lib.hid r0
        have HMk : Hid (∀ t (ht : t < L.length), L[t] < c.nd ∧ MT k t (L[t]) = 0 ∧ (∀ h : 0 < t, L[t - 1]'(by omega) < L[t]) ∧ ∀ j, j < c.nd → upd (MT k t) (L[t]) (k + 1) j = MT k (t + 1) j) := by subst hL; exact fun t ht => HMT.out k t hlt ht
        have HMn := Lib.hid (HMTn.out k)
        have HM0 := Lib.hid (HMT0.out k)
        rw [← hL] at x0 hlp hle R0 HMn
        obtain ⟨ll, hll⟩ : ∃ ll, ll = L.length := ⟨_, rfl⟩
        rw [← hll] at x0 hlp hle HMn
        have HLL := Lib.hid hll
        have e2 : ((ll : Int) == 0) = false := by simp; omega
        have HO := Lib.hid own
        have HB := Lib.hid hb
        clear f0 r0 hL hll own hb HL HLP HLE HMT HMTn HMT0
        obtain ⟨wo, hwo⟩ : ∃ wo, wo = wr := ⟨_, rfl⟩
        subst hwo
        go_wp2
        go_loopw [51] (fun i wr => ∃ t : Nat, t ≤ ll ∧ i = .int .i64 (t : Int) ∧ OwZ wr w3.heap.size (some ⟨w3.heap.size, 0, none⟩) c.nd c.nd (MT k t) ∧ Below w3.heap.size w3 wr) (fun i _ => ll - (intOf i).toNat)
        case atStart => exact ⟨0, Nat.zero_le _, rfl, by rw [HM0.out]; exact HO.out, HB.out⟩
        case round =>
          clear HO HB x0 hz
          obtain ⟨t, ht, rfl, own, hb⟩ := hrel
          have hz := hb.size
          have hown := own.frozen
          have hgl := (World.ownsRow.lt own w3.heap.size rfl).2
          by_cases htl : t < ll
          · have htL : t < L.length := by rw [← HLL.out]; exact htl
            obtain ⟨p1, p2, p3, p4⟩ := HMk.out t htL
            have r1 := R0.out.below hb
            obtain ⟨gi, rfl, q0⟩ := r1.at_ htL
            have q9 : ∀ h : 0 < t, ∃ v : Nat, wr.cell? ⟨gi, t - 1, none⟩ = some (.int .i64 (v : Int)) ∧ v < L[t] := fun h => by
              obtain ⟨g8, e8, q8⟩ := r1.at_ (k := t - 1) (by omega)
              cases e8
              exact ⟨_, q8, p3 h⟩
            obtain ⟨s, hs⟩ : ∃ s, s = L[t] := ⟨_, rfl⟩
            rw [← hs] at p1 p2 p4 q0 q9
            have za : wr.cell? ⟨w3.heap.size, s, none⟩ = some (.int .i64 0) := by rw [own.at_ p1, p2]; rfl
            have y0r := (hb.cell (p := ⟨w.heap.size, 0, none⟩) hw3).trans y0
            have st := own.set s (k + 1)
            rw [show ((k + 1 : Nat) : Int) = (k : Int) + 1 by omega] at st
            have hb2 := hb.trans (below_of_row st.2 (fun q hq => by injection hq with hq; omega) (by omega))
            have HST := Lib.hid (st.1.congr p4)
            have HB2 := Lib.hid hb2
            have hti : (t : Int) < (ll : Int) := by omega
            have ht0 : (0 : Int) ≤ (t : Int) := by omega
            have hsi : (s : Int) < (c.nd : Int) := by omega
            have hs0 : (0 : Int) ≤ (s : Int) := by omega
            clear p2 p3 p4 r1 hs own hb st hb2
            by_cases ht9 : t = 0
            · subst ht9
              clear q9
              go_wp2
              go_roundw
              case rel => exact ⟨1, by omega, by go_num, HST.out, HB2.out⟩
              case measure => simp [intOf]; omega
            · obtain ⟨v, q1, hv⟩ := q9 (by omega)
              have hvs : ¬ ((s : Int) ≤ (v : Int)) := by omega
              have ht2 : (1 : Int) ≤ (t : Int) := by omega
              have ht3 : (t : Int) - 1 < (ll : Int) := by omega
              have e7 : decide ((0 : Int) < (t : Int)) = true := by simp; omega
              have htp : (0 : Int) < (t : Int) := by omega
              clear q9
              go_wp2
              go_roundw
              case rel => exact ⟨t + 1, by omega, by go_num, HST.out, HB2.out⟩
              case measure => simp [intOf]; omega
          · have htn : t = ll := by omega
            subst htn
            have HO2 := Lib.hid (own.congr (fun j hj => HMn.out j hj))
            have HB := Lib.hid hb
            clear own hb
            go_wp2
            go_roundw
            case rel => exact ⟨k + 1, by omega, by go_num, HO2.out, HB.out⟩
            case measure => simp [intOf]; omega
      · have hkn : nc = k := by omega
        subst hkn
        obtain ⟨wA, hwA⟩ : ∃ wA, wA = wr := ⟨_, rfl⟩
        subst hwA
        have HOW := Lib.hid own
        have hgl := (World.ownsRow.lt own w3.heap.size rfl).2
        have y0A := (hb.cell (p := ⟨w.heap.size, 0, none⟩) hw3).trans y0
        have y1A := (hb.cell (p := ⟨w.heap.size, 1, none⟩) hw3).trans y1
        have y2A := (hb.cell (p := ⟨w.heap.size, 2, none⟩) hw3).trans y2
        have y3A := (hb.cell (p := ⟨w.heap.size, 3, none⟩) hw3).trans y3
        have HBA := Lib.hid (HB3.out.trans (hb.mono HB3.out.size))
        have hwA : w.heap.size < wA.heap.size := by omega
        clear own hb HL HLP HLE HMT HMTn HMT0 HMK0 y0 y1 y2 y3
        go_wp2
        go_loopw [94] (fun i wr => ∃ k : Nat, k ≤ c.nm ∧ i = .int .i64 (k : Int) ∧ Below wA.heap.size wA wr) (fun i _ => c.nm - (intOf i).toNat)
        case atStart => exact ⟨0, Nat.zero_le _, rfl, Below.refl _ _⟩
        case round =>
          obtain ⟨k, hk, rfl, hb⟩ := hrel
          have hz := hb.size
          have hbw : Below w.heap.size w wr := HBA.out.trans (hb.mono HBA.out.size)
          by_cases hlt : k < c.nm
          · obtain ⟨bm, om, s1, A1, n1, c1, B1, m1, d1, rfl, hbm, g0, g1, g2, g3, g4, r1, hfn, htn, hft⟩ := HMV.out wr hbw k hlt
            have own := HOW.out.below hb
            have za := own.at_ hfn
            have zb := own.at_ htn
            have hsh := HSH.out k hlt
            obtain ⟨f, hf⟩ : ∃ f, f = c.f k := ⟨_, rfl⟩
            obtain ⟨tt, htt⟩ : ∃ tt, tt = c.t k := ⟨_, rfl⟩
            rw [← hf] at g0 hfn hsh za
            rw [← htt] at g1 htn hsh zb
            obtain ⟨mf, hmf⟩ : ∃ mf, mf = MK nc f := ⟨_, rfl⟩
            obtain ⟨mt, hmt⟩ : ∃ mt, mt = MK nc tt := ⟨_, rfl⟩
            rw [← hmf] at za hsh
            rw [← hmt] at zb hsh
            have HB := Lib.hid hb
            clear hf htt hmf hmt hft r1 own hb hbw
            have hki : (k : Int) < (c.nm : Int) := by omega
            have hk0 : (0 : Int) ≤ (k : Int) := by omega
            have hfi : (f : Int) < (c.nd : Int) := by omega
            have hf0 : (0 : Int) ≤ (f : Int) := by omega
            have hti : (tt : Int) < (c.nd : Int) := by omega
            have ht0 : (0 : Int) ≤ (tt : Int) := by omega
            have hg9 : w3.heap.size < wr.heap.size := by omega
            have za' := (World.cell?_alloc_lt wr (.cells #[.int .i64 (f : Int), .int .i64 (tt : Int), .bool s1, .slice A1 n1 c1, .slice B1 m1 d1] 38) ⟨w3.heap.size, f, none⟩ hg9).trans za
            have zb' := (World.cell?_alloc_lt wr (.cells #[.int .i64 (f : Int), .int .i64 (tt : Int), .bool s1, .slice A1 n1 c1, .slice B1 m1 d1] 38) ⟨w3.heap.size, tt, none⟩ hg9).trans zb
            have hal : Below wr.heap.size wr (wr.alloc (.cells #[.int .i64 (f : Int), .int .i64 (tt : Int), .bool s1, .slice A1 n1 c1, .slice B1 m1 d1] 38)) := (Below.refl _ _).alloc (Nat.le_refl _) _
            have HAL := Lib.hid (HB.out.trans (hal.mono hz))
            clear hal
            by_cases hm0 : mf = 0
            · subst hm0
              clear hsh
              go_wp2
              generalize hwq : wr.alloc (.cells #[.int .i64 (f : Int), .int .i64 (tt : Int), .bool s1, .slice A1 n1 c1, .slice B1 m1 d1] 38) = wq at *
              have z0 : wq.cell? ⟨wr.heap.size, 0, none⟩ = some (.int .i64 (f : Int)) := by rw [← hwq]; simp
              have z1 : wq.cell? ⟨wr.heap.size, 1, none⟩ = some (.int .i64 (tt : Int)) := by rw [← hwq]; simp
              have a0 := fun y : Sub wq => y.cell z0
              have a1 := fun y : Sub wq => y.cell z1
              have a2 : ∀ y : Sub wq, _ := fun y => y.cell (show wq.cell? ⟨w3.heap.size, f, none⟩ = some (.int .i64 0) from za')
              clear z0 z1 za' zb' g0 g1 g2 g3 g4 za zb hwq
              ((refine wp_region_quiet_bel (by kernel_rfl) (by kernel_rfl) ?_); (repeat (go_big_quiet_step (fail))); (refine wpQuiet_nil ?_); rintro w8 ⟨⟨_, hb8⟩, rfl⟩; (try dsimp only))
              have HB8 := Lib.hid (HAL.out.trans (hb8.mono HAL.out.size))
              go_wp2
              go_roundw
              case rel => exact ⟨k + 1, by omega, by go_num, HB8.out⟩
              case measure => simp [intOf]; omega
            · have hme := hsh hm0
              subst hme
              have e3 : ((mt : Int) != 0) = true := by simp; omega
              have e4 : ((mt : Int) != (mt : Int)) = false := by simp
              clear hsh hm0
              go_wp2
              generalize hwq : wr.alloc (.cells #[.int .i64 (f : Int), .int .i64 (tt : Int), .bool s1, .slice A1 n1 c1, .slice B1 m1 d1] 38) = wq at *
              have z0 : wq.cell? ⟨wr.heap.size, 0, none⟩ = some (.int .i64 (f : Int)) := by rw [← hwq]; simp
              have z1 : wq.cell? ⟨wr.heap.size, 1, none⟩ = some (.int .i64 (tt : Int)) := by rw [← hwq]; simp
              have a0 := fun y : Sub wq => y.cell z0
              have a1 := fun y : Sub wq => y.cell z1
              have a2 := fun y : Sub wq => y.cell za'
              have a3 := fun y : Sub wq => y.cell zb'
              clear z0 z1 za' zb' g0 g1 g2 g3 g4 za zb hwq
              ((refine wp_region_quiet_bel (by kernel_rfl) (by kernel_rfl) ?_); (repeat (go_big_quiet_step (fail))); (refine wpQuiet_nil ?_); rintro w8 ⟨⟨_, hb8⟩, rfl⟩; (try dsimp only))
              have HB8 := Lib.hid (HAL.out.trans (hb8.mono HAL.out.size))
              go_wp2
              go_roundw
              case rel => exact ⟨k + 1, by omega, by go_num, HB8.out⟩
              case measure => simp [intOf]; omega
          · have x0 := (hb.cell (p := ⟨w.heap.size, 0, none⟩) hwA).trans y0A
            have x1 := (hb.cell (p := ⟨w.heap.size, 1, none⟩) hwA).trans y1A
            have x2 := (hb.cell (p := ⟨w.heap.size, 2, none⟩) hwA).trans y2A
            have x3 := (hb.cell (p := ⟨w.heap.size, 3, none⟩) hwA).trans y3A
            have HO := Lib.hid (HOW.out.below hb)
            have HBW := Lib.hid hbw
            have hwr : w.heap.size < wr.heap.size := by omega
            have hgr : w3.heap.size < wr.heap.size := by omega
            clear hb hbw HOW HSH HMV y0A y1A y2A y3A
            have x0' : wr.cell? ⟨w.heap.size, 0, none⟩ = some (.int .i64 c.st) := by rw [hst.out]; exact x0
            by_cases h1 : nc = 1
            · have KY' := Lib.hid (KY.out h1)
              have HPI' := Lib.hid (HPI.out h1)
              clear KY KN HPI
              clear x0
              (go_wp2_with fail; (with_reducible refine (KY'.out _ HBW.out).mono ?_); rintro e w7 ⟨⟨A7, c7, rfl, r7⟩, hb7⟩; have hb7z := Below.size hb7; (try simp only [ZA, ZS, ZD, ZN] at hb7z); have hb7c0 := fun o => below_at hb7 (w.heap.size) o (by first | omega | (simp only [ZA, ZS, ZD, ZN]; omega)); have hb7f0 := fun o => below_fr hb7 (w.heap.size) o (by first | omega | (simp only [ZA, ZS, ZD, ZN]; omega)))
              have X0 : w7.cell? ⟨w.heap.size, 0, none⟩ = some (.int .i64 (c.nd : Int)) := by rw [hb7c0, ← hst.out]; exact x0'
              have e5 : ((c.nd : Int) != (c.nd : Int)) = false := by simp
              have HB7 := Lib.hid (HBW.out.trans (hb7.mono HBW.out.size))
              have HO7 := Lib.hid (HO.out.below hb7)
              have hg7 : w3.heap.size < w7.heap.size := by have := hb7.size; omega
              have H7 := Lib.hid r7
              clear x0' x1 x2 x3 hb7 hb7c0 hb7f0 r7 HO KY'
              go_wp2
              go_loopw [139] (fun i wr => ∃ k : Nat, k ≤ c.nd ∧ i = .int .i64 (k : Int) ∧ Below w7.heap.size w7 wr) (fun i _ => c.nd - (intOf i).toNat)
              case atStart => exact ⟨0, Nat.zero_le _, rfl, Below.refl _ _⟩
              case round =>
                obtain ⟨k, hk, rfl, hb⟩ := hrel
                have hzr := hb.size
                by_cases hlt : k < c.nd
                · obtain ⟨bx, ox, sx, Ax, nx, cx, Bx, mx, dx, rfl, hbx, p0, p1, p2, rx⟩ := H7.out.at_ hlt
                  have x0 := (hb.cell (lt_of_cell p0)).trans p0
                  have x1 := (hb.cell (lt_of_cell p1)).trans p1
                  have x2 := (hb.cell (lt_of_cell p2)).trans p2
                  have mt := (HO7.out.below hb).at_ hlt
                  have qx := (show RdS w7 _ _ (canR (X k)) from rx).canQ (HXS.out k)
                  have KS := Lib.hid (fun W (hb' : Below w7.heap.size w7 W) => signQ (qx.below hb') (by omega) (by omega))
                  obtain ⟨hp1, hp2⟩ := HPI'.out k hlt
                  obtain ⟨mk, hmk⟩ : ∃ mk, mk = MK nc k := ⟨_, rfl⟩
                  rw [← hmk] at mt hp2
                  have hki : (k : Int) < (c.nd : Int) := by omega
                  have hk0 : (0 : Int) ≤ (k : Int) := by omega
                  have hbl2 : w3.heap.size < wr.heap.size := by omega
                  have HB := Lib.hid hb
                  clear p0 p1 p2 rx hb qx hmk
                  have mt' := (World.cell?_alloc_lt wr (.cells #[.bool sx, .slice Ax nx cx, .slice Bx mx dx] 36) ⟨w3.heap.size, k, none⟩ hbl2).trans mt
                  have hAL : Below wr.heap.size wr (wr.alloc (.cells #[.bool sx, .slice Ax nx cx, .slice Bx mx dx] 36)) := (Below.refl _ _).alloc (Nat.le_refl _) _
                  have HAL := Lib.hid (HB.out.trans (hAL.mono hzr))
                  clear hAL mt
                  by_cases hX : 0 < X k
                  · have hm0 := hp2.1 hX
                    rw [sgn_pos hX] at KS
                    have e3 : ((mk : Int) != 0) = true := by simp; omega
                    clear hp1 hp2 hX hm0
                    go_wp2
                    generalize hwq : wr.alloc (.cells #[.bool sx, .slice Ax nx cx, .slice Bx mx dx] 36) = wq at *
                    have z0 : wq.cell? ⟨wr.heap.size, 0, none⟩ = some (.bool sx) := by rw [← hwq]; simp
                    have z1 : wq.cell? ⟨wr.heap.size, 1, none⟩ = some (.slice Ax nx cx) := by rw [← hwq]; simp
                    have z2 : wq.cell? ⟨wr.heap.size, 2, none⟩ = some (.slice Bx mx dx) := by rw [← hwq]; simp
                    have a0 := fun y : Sub wq => y.cell z0
                    have a1 := fun y : Sub wq => y.cell z1
                    have a2 := fun y : Sub wq => y.cell z2
                    have a3 := fun y : Sub wq => y.cell mt'
                    have KQ := Lib.hid (fun W (hb' : Below wq.heap.size wq W) => KS.out W (HAL.out.trans (hb'.mono HAL.out.size)))
                    clear z0 z1 z2 mt' x0 x1 x2 hwq
                    ((refine wp_region_quiet_bel (by kernel_rfl) (by kernel_rfl) ?_); (repeat (go_big_quiet_step ((go_at_call 9; with_reducible exact Calls.quiet_bel (KQ.out _ (Sub.bel _)))))); (refine wpQuiet_nil ?_); rintro w8 ⟨⟨_, hb8⟩, rfl⟩; (try dsimp only))
                    have HB8 := Lib.hid (HAL.out.trans (hb8.mono HAL.out.size))
                    go_wp2
                    go_roundw
                    case rel => exact ⟨k + 1, by omega, by go_num, HB8.out⟩
                    case measure => simp [intOf]; omega
                  · have hX0 : X k = 0 := by have := Rat.not_lt.1 hX; grind
                    have hm0 : mk = 0 := by
                      apply Classical.byContradiction
                      intro hne
                      exact hX (hp2.2 hne)
                    rw [sgnQ_zero.2 hX0] at KS
                    subst hm0
                    have mt0 : (wr.alloc (.cells #[.bool sx, .slice Ax nx cx, .slice Bx mx dx] 36)).cell? ⟨w3.heap.size, k, none⟩ = some (.int .i64 0) := mt'
                    clear hp1 hp2 hX hX0 mt'
                    go_wp2
                    generalize hwq : wr.alloc (.cells #[.bool sx, .slice Ax nx cx, .slice Bx mx dx] 36) = wq at *
                    have z0 : wq.cell? ⟨wr.heap.size, 0, none⟩ = some (.bool sx) := by rw [← hwq]; simp
                    have z1 : wq.cell? ⟨wr.heap.size, 1, none⟩ = some (.slice Ax nx cx) := by rw [← hwq]; simp
                    have z2 : wq.cell? ⟨wr.heap.size, 2, none⟩ = some (.slice Bx mx dx) := by rw [← hwq]; simp
                    have a0 := fun y : Sub wq => y.cell z0
                    have a1 := fun y : Sub wq => y.cell z1
                    have a2 := fun y : Sub wq => y.cell z2
                    have a3 := fun y : Sub wq => y.cell mt0
                    have KQ := Lib.hid (fun W (hb' : Below wq.heap.size wq W) => KS.out W (HAL.out.trans (hb'.mono HAL.out.size)))
                    clear z0 z1 z2 mt0 x0 x1 x2 hwq
                    ((refine wp_region_quiet_bel (by kernel_rfl) (by kernel_rfl) ?_); (repeat (go_big_quiet_step ((go_at_call 9; with_reducible exact Calls.quiet_bel (KQ.out _ (Sub.bel _)))))); (refine wpQuiet_nil ?_); rintro w8 ⟨⟨_, hb8⟩, rfl⟩; (try dsimp only))
                    have HB8 := Lib.hid (HAL.out.trans (hb8.mono HAL.out.size))
                    go_wp2
                    go_roundw
                    case rel => exact ⟨k + 1, by omega, by go_num, HB8.out⟩
                    case measure => simp [intOf]; omega
                · have HB := Lib.hid (HB7.out.trans (hb.mono HB7.out.size))
                  clear hb
                  go_wp2
                  go_ret
                  exact ⟨rfl, HB.out⟩
            · have KN' := Lib.hid (KN.out h1)
              have e6 : decide ((1 : Int) < (nc : Int)) = true := by simp; omega
              clear KY KN HPI x0 h1
              (go_wp2_with fail; (with_reducible refine (KN'.out _ HBW.out).mono ?_); rintro e w7 ⟨⟨A7, c7, rfl⟩, hb7⟩; have hb7z := Below.size hb7; (try simp only [ZA, ZS, ZD, ZN] at hb7z))
              have HB7 := Lib.hid (HBW.out.trans (hb7.mono HBW.out.size))
              clear hb7 x0' x1 x2 x3
              go_wp2_with fail
              (with_reducible refine (bis_eq _ _).mono ?_)
              rintro e _ ⟨rfl, rfl⟩
              go_wp2
              go_ret
              exact ⟨rfl, HB7.out⟩
end Go.Proofs.YtmebdlilbnadgaaDoor
