/- Contracts of functions and lemmas, used by the proofs of the given statements. No condition beyond those that each lemma names. -/
import Derived.Test.YtmebdlilbnadgaaGreatDoorDetM
import Derived.Test.YtmebdlilbnadgaaGreatDoorStaV
namespace Go.Proofs.YtmebdlilbnadgaaGreatDoor
open Go.RowKit
open Go.Maps Go.WideMaps
set_option linter.unusedSimpArgs false
set_option linter.unusedVariables false
set_option maxRecDepth 20000
attribute [local irreducible] nv wp win plainB validR valR canR mvE chkM codeC netS sumN dsum floG mapD vM
/-! ## package stationary: Detailed -/
set_option maxHeartbeats 16000000 in
theorem Detailed_any {w : World} {AM AD AV : Option Addr} {cm cd n ca : Nat} {c : Chn} {R : Nat → Rw} (h : DistS w AM cm AD cd c AV n R) :
    Calls Tryz.prog 28 #[cv c.st c.sr AM c.nm cm AD c.nd cd, .slice AV n ca] w fun e w' => e = .returned (.tuple #[.bool (c.detV n R), errM (c.codeB n R)]) ∧ Below w.heap.size w w' := by
  have K1 := Lib.hid (fun W (hb : Below w.heap.size w W) => scheck_any (ca := ca) (h.below hb).ch h.sm.ch (h.below hb).v h.big h.n6)
  have HPB := Lib.hid (fun W hb => par_below (W := W) (w := w) (o := .cells #[.int .i64 c.st, .int .i64 c.sr, .slice AM c.nm cm, .slice AD c.nd cd] 25) hb)
  have HPC := Lib.hid (fun W hb => par_cells (W := W) (w := w) (a := .int .i64 c.st) (b := .int .i64 c.sr) (d := .slice AM c.nm cm) (e := .slice AD c.nd cd) (t := 25) hb)
  have hW0z : (w.alloc (.cells #[.int .i64 c.st, .int .i64 c.sr, .slice AM c.nm cm, .slice AD c.nd cd] 25)).heap.size = w.heap.size + 1 := by simp
  by_cases hB : c.codeB n R = 0
  · obtain ⟨h0, hnn, hv0⟩ := Chn.codeB_0 hB
    have ok := Chn.ok_iff.1 h0
    have hn1 := ok.lo
    have hn9 := h.sm.nd ok
    have hnm := h.sm.nm
    have hfz := h.fz hB
    have hVc := h.vec hB
    have HX : Hid (c.detV n R = c.detB (vecQ n R)) := by show c.detV n R = _; unfold Chn.detV; rw [if_pos hB]
    rw [hB, errM_0] at K1
    rw [hB, errM_0, HX.out]
    subst hnn
    obtain ⟨X, hX⟩ : ∃ X, X = vecQ c.nd R := ⟨_, rfl⟩
    rw [← hX] at hfz hVc ⊢
    obtain ⟨M, hM⟩ : ∃ M, M = 220000100 := ⟨_, rfl⟩
    obtain ⟨-, b2, -, -, -⟩ := h.sm.bal ok _ X hfz
    have HS2 : Hid (∀ k, k < c.nm → ∀ s, Sz M (X s * c.q k)) := fun k hk s => (b2 k hk s).more (by omega)
    have HSR : Hid (∀ s a b, Sz M (X s * c.rt a b)) := fun s a b => (h.sm.rtS ok hfz s a b).more (by omega)
    have HXS : Hid (∀ s, Sz M (X s)) := fun s => ((hfz.more (show 220000000 ≤ 220000001 by omega)).sz (by omega) s).more (by omega)
    have HDY : Hid ((∀ k, k < c.nm → X (c.f k) * c.q k = X (c.t k) * c.rt (c.t k) (c.f k)) → c.detB X = true) := fun h => Chn.detB_yes h
    have HDN : Hid (∀ k, k < c.nm → ¬ X (c.f k) * c.q k = X (c.t k) * c.rt (c.t k) (c.f k) → c.detB X = false) := fun k hk h => Chn.detB_no hk h
    obtain ⟨V, hV⟩ := h.ch.mv_all ok
    have HMV := Lib.hid hV
    have HSQ := Lib.hid (fun k hk => (h.sm.ch.siz ok).raw k hk)
    have HRA : Hid (∀ W, Below w.heap.size w W → ∀ a b, RdQ W M (vM V c.f c.t a b c.nm) (c.rt a b)) := fun W hb a b => by
      rw [← Chn.rtN_all ok]
      refine vM_rd (P := fun v q => RdQ W M v q) ((RdS.zr W 0).canQ (Sz.zero (by omega))) c.nm fun j hj => ?_
      obtain ⟨bm, om, s1, A1, n1, c1, B1, m1, d1, ev, -, -, -, -, -, -, -, r1, -⟩ := hV W hb j hj
      obtain ⟨q1, q2⟩ := (h.sm.ch.siz ok).raw j hj
      rw [ev]
      exact r1.rdq (L := M) (by omega) (by omega)
    have HFT : Hid (∀ j, j < c.nm → c.f j ≤ 1000000 ∧ c.t j ≤ 1000000) := fun j hj => by
      have := Chn.mvA ok j hj
      omega
    have HM0 : Hid (mapD V c.f c.t 0 = .map []) := by show mapD V c.f c.t 0 = _; unfold mapD; rfl
    obtain ⟨bD, hbD⟩ : ∃ bD, bD = c.detB X := ⟨_, rfl⟩
    rw [← hbD] at HDY HDN ⊢
    obtain ⟨RT, hRT⟩ : ∃ RT : Nat → Nat → Rat, RT = c.rt := ⟨_, rfl⟩
    rw [← hRT] at HSR HDY HDN HRA
    have HV := Lib.hid hVc
    have hML : 400 ≤ M ∧ M ≤ 1000000000 := by omega
    have hmm := @run_makeMap Tryz.prog
    have hst := ok.st
    rw [hst] at K1 HPB HPC hW0z ⊢
    obtain ⟨sr, hsr⟩ : ∃ sr, sr = c.sr := ⟨_, rfl⟩
    rw [← hsr] at K1 HPB HPC hW0z ⊢
    clear h hB h0 hv0 ok hst hX hM hbD hRT hsr hV hfz hVc b2 HX
    go_enter Tryz.func28, Tryz.ntmps28
    (go_wp2_with fail; (with_reducible refine (K1.out _ (by (skip); repeat' (first | (with_reducible exact Below.refl _ _) | (with_reducible assumption) | (with_reducible refine Below.alloc ?_ ?_ _) | (with_reducible refine Below.drew ?_) | (with_reducible refine below_drewN ?_ _) | (with_reducible refine Below.setCell ?_ ?_ _) | (with_reducible refine Below.trans ?_ (Below.mono (by with_reducible assumption) ?_)) | omega | (simp only [ZA, ZS, ZD, ZN]; omega) | go_size))).mono ?_); rintro e w1 ⟨rfl, hb1⟩; have hb1z := Below.size hb1; (try simp only [ZA, ZS, ZD, ZN] at hb1z); have hb1c0 := fun o => below_at hb1 (w.heap.size) o (by first | omega | (simp only [ZA, ZS, ZD, ZN]; omega)); have hb1f0 := fun o => below_fr hb1 (w.heap.size) o (by first | omega | (simp only [ZA, ZS, ZD, ZN]; omega)))
    have HB1 : Hid (Below (w.heap.size + 1) (w.alloc (.cells #[.int .i64 (c.nd : Int), .int .i64 sr, .slice AM c.nm cm, .slice AD c.nd cd] 25)) w1) := by show Below _ _ _; simpa using hb1
    have hz1 := HB1.out.size
    rw [hW0z] at hz1
    clear hb1 hb1c0 hb1f0 hW0z
    generalize w.alloc (.cells #[.int .i64 (c.nd : Int), .int .i64 sr, .slice AM c.nm cm, .slice AD c.nd cd] 25) = W0 at *
    obtain ⟨y0, y1, y2, y3⟩ := HPC.out _ HB1.out
    have y2' := fun o => Lib.cell?_alloc_some o y2
    go_wp2
    go_loopw [23] (fun i wr => ∃ k : Nat, k ≤ c.nm ∧ i = .int .i64 (k : Int) ∧ OwMr wr w1.heap.size k (mapD V c.f c.t k) ∧ Below w1.heap.size w1 wr) (fun i _ => c.nm - (intOf i).toNat)
    case atStart => exact ⟨0, Nat.zero_le _, rfl, by rw [HM0.out]; exact World.ownsMap_made _ _ _ _, (Below.refl _ _).alloc (Nat.le_refl _) _⟩
    case round =>
      clear y0 y1 y2 y3 y2'
      obtain ⟨k, hk, rfl, oM, hb⟩ := hrel
      have hz := hb.size
      have hbr := HB1.out.trans (hb.mono (by omega))
      have hbw := HPB.out _ hbr
      by_cases hlt : k < c.nm
      · obtain ⟨bm, om, s1, A1, n1, c1, B1, m1, d1, ev, rfl, hbm, g0, g1, g2, g3, g4, -, hfn, htn, hft⟩ := HMV.out wr hbw k hlt
        have hFT := HFT.out k hlt
        obtain ⟨f, hf⟩ : ∃ f, f = c.f k := ⟨_, rfl⟩
        obtain ⟨tt, ht⟩ : ∃ tt, tt = c.t k := ⟨_, rfl⟩
        rw [← hf] at g0 hFT
        rw [← ht] at g1 hFT
        have HFk := Lib.hid hf
        have HTk := Lib.hid ht
        have HVk : Hid (rv s1 A1 n1 c1 B1 m1 d1 = V k) := ev.symm
        have hki : (k : Int) < (c.nm : Int) := by omega
        have hk0 : (0 : Int) ≤ (k : Int) := by omega
        have HOM := Lib.hid oM
        have HB := Lib.hid hb
        have hal : Below wr.heap.size wr (wr.alloc (.cells #[.int .i64 (f : Int), .int .i64 (tt : Int), .bool s1, .slice A1 n1 c1, .slice B1 m1 d1] 33)) := (Below.refl _ _).alloc (Nat.le_refl _) _
        have HAL := Lib.hid hal
        clear hf ht ev oM hb hal
        go_wp2_with (first | (at_mapUpdate; refine wpList_mrPut rfl (.tmp 27) (.tmp 32) (.tmp 34) rfl w1.heap.size k (by rfl) (HOM.out.below HAL.out) (by omega) f tt HFk.out HTk.out (by omega) (by omega) (rv s1 A1 n1 c1 B1 m1 d1) HVk.out (by rfl) (by rfl) ?_; intro w5 own5 hgr5) | fail)
        go_roundw
        case rel => exact ⟨k + 1, by omega, by go_num, own5, (HB.out.trans (HAL.out.mono (by omega))).trans (below_of_row hgr5 (fun q hq => by injection hq with hq; omega) (by simp; omega))⟩
        case measure => simp [intOf]; omega
      · have hkm : k = c.nm := by omega
        subst hkm
        have HOM := Lib.hid oM
        have HBm := Lib.hid hb
        obtain ⟨wM, hwM⟩ : ∃ wM, wM = wr := ⟨_, rfl⟩
        subst hwM
        obtain ⟨y0, y1, y2, y3⟩ := HPC.out _ hbr
        have HBR := Lib.hid hbr
        clear oM hb hbr hbw
        go_wp2
        go_loopw [39] (fun i wr => ∃ k : Nat, k ≤ c.nm ∧ i = .int .i64 (k : Int) ∧ (∀ j, j < k → X (c.f j) * c.q j = X (c.t j) * RT (c.t j) (c.f j)) ∧ Below wM.heap.size wM wr) (fun i _ => c.nm - (intOf i).toNat)
        case atStart => exact ⟨0, Nat.zero_le _, rfl, fun j hj => by omega, Below.refl _ _⟩
        case round =>
          clear y0 y1 y2 y3
          obtain ⟨k, hk, rfl, hall, hb⟩ := hrel
          have HAll := Lib.hid hall
          clear hall
          have hzr := hb.size
          have hbw := HPB.out _ (HBR.out.trans (hb.mono (by omega)))
          by_cases hlt : k < c.nm
          · obtain ⟨bm, om, s1, A1, n1, c1, B1, m1, d1, ev, rfl, hbm, g0, g1, g2, g3, g4, r1, hfn, htn, hft⟩ := HMV.out wr hbw k hlt
            obtain ⟨bx, ox, s2, A2, n2, c2, B2, m2, d2, rfl, hbx, v0, v1, v2, rf2⟩ := HV.out.at_ hfn
            obtain ⟨bx', ox', s3, A3, n3, c3, B3, m3, d3, exy, -, u0, u1, u2, rt2⟩ := HV.out.at_ htn
            injection exy with exy
            injection exy with exy1 exy2
            subst exy1 exy2
            have x0 := (hbw.cell (lt_of_cell v0)).trans v0
            have x1 := (hbw.cell (lt_of_cell v1)).trans v1
            have x2 := (hbw.cell (lt_of_cell v2)).trans v2
            have x3 := (hbw.cell (lt_of_cell u0)).trans u0
            have x4 := (hbw.cell (lt_of_cell u1)).trans u1
            have x5 := (hbw.cell (lt_of_cell u2)).trans u2
            obtain ⟨q1, q2⟩ := HSQ.out k hlt
            have hqv : valR (c.R k) = c.q k := rfl
            have qm := r1.rdq (L := M) (by omega) (by omega)
            rw [hqv] at qm
            have qf := ((show RdS w _ _ (canR (X (c.f k))) from rf2).kp (Kp.of_below hbw)).canQ (HXS.out (c.f k))
            have qt := ((show RdS w _ _ (canR (X (c.t k))) from rt2).kp (Kp.of_below hbw)).canQ (HXS.out (c.t k))
            have qb := HRA.out wr hbw (c.t k) (c.f k)
            have hS1 := HS2.out k hlt (c.f k)
            have hS2 := HSR.out (c.t k) (c.t k) (c.f k)
            have hFT := HFT.out k hlt
            have hDN := HDN.out k hlt
            have hall' : X (c.f k) * c.q k = X (c.t k) * RT (c.t k) (c.f k) → ∀ j, j < k + 1 → X (c.f j) * c.q j = X (c.t j) * RT (c.t j) (c.f j) := fun e j hj => by
              by_cases ej : j = k
              · rw [ej]; exact e
              · exact HAll.out j (by omega)
            obtain ⟨vb, hvb⟩ : ∃ vb, vM V c.f c.t (c.t k) (c.f k) c.nm = vb := ⟨_, rfl⟩
            have hvb2 := hvb
            obtain ⟨f, hf⟩ : ∃ f, f = c.f k := ⟨_, rfl⟩
            obtain ⟨tt, ht⟩ : ∃ tt, tt = c.t k := ⟨_, rfl⟩
            obtain ⟨q, hq⟩ : ∃ q, q = c.q k := ⟨_, rfl⟩
            obtain ⟨bq, hbq⟩ : ∃ bq, bq = RT (c.t k) (c.f k) := ⟨_, rfl⟩
            rw [hvb] at qb
            rw [← hbq] at qb hS2 hDN hall'
            rw [← hf] at g0 hfn hft qf hS1 hFT hvb2 x0 x1 x2 hDN hall'
            rw [← ht] at g1 htn hft qt hS2 hFT hvb2 x3 x4 x5 hDN hall'
            rw [← hq] at qm hS1 hDN hall'
            have HVB := Lib.hid hvb2
            obtain ⟨rb, hrb, hrest⟩ := qb
            obtain ⟨s4, A4, n4, c4, B4, m4, d4, rfl⟩ := hrb.form
            have qb : RdQ wr M (rv s4 A4 n4 c4 B4 m4 d4) bq := ⟨rb, hrb, hrest⟩
            have HQf := Lib.hid qf
            have HQt := Lib.hid qt
            have HQm := Lib.hid qm
            have HQb := Lib.hid qb
            have HDNk := Lib.hid hDN
            have HALL := Lib.hid hall'
            have hki : (k : Int) < (c.nm : Int) := by omega
            have hk0 : (0 : Int) ≤ (k : Int) := by omega
            have hfi : (f : Int) < (c.nd : Int) := by omega
            have hf0 : (0 : Int) ≤ (f : Int) := by omega
            have hti : (tt : Int) < (c.nd : Int) := by omega
            have ht0 : (0 : Int) ≤ (tt : Int) := by omega
            have hbx9 : bx < wr.heap.size := by have := hbw.size; omega
            have HB := Lib.hid hb
            have HBw := Lib.hid hbw
            have HOMx : Hid (∀ W, Below wr.heap.size wr W → OwMr W w1.heap.size c.nm (mapD V c.f c.t c.nm)) := fun W hW => HOM.out.below (hb.trans (hW.mono hzr))
            have hal : Below wr.heap.size wr (wr.alloc (.cells #[.int .i64 (f : Int), .int .i64 (tt : Int), .bool s1, .slice A1 n1 c1, .slice B1 m1 d1] 33)) := (Below.refl _ _).alloc (Nat.le_refl _) _
            have HAL := Lib.hid hal
            clear hvb hvb2 hf ht hq hbq hqv q1 q2 rf2 rt2 r1 v0 v1 v2 u0 u1 u2 qm qf qt qb hrb hrest ev hb hbw hal hDN hall' HAll
            go_wp2_with (first | (at_lookup; refine wpList_mrGet rfl (.tmp 43) (.tmp 48) rfl w1.heap.size c.nm (by rfl) (HOMx.out _ HAL.out) HFT.out tt f (by omega) (by omega) (rv s4 A4 n4 c4 B4 m4 d4) HVB.out (by rfl) ?_) | fail)
            obtain ⟨W9, hW9⟩ : ∃ W9, W9 = (wr.alloc (.cells #[.int .i64 (f : Int), .int .i64 (tt : Int), .bool s1, .slice A1 n1 c1, .slice B1 m1 d1] 33)).alloc (.cells #[.bool s4, .slice A4 n4 c4, .slice B4 m4 d4] 30) := ⟨_, rfl⟩
            rw [← hW9]
            have hAL : Below wr.heap.size wr W9 := by rw [hW9]; exact ((Below.refl _ _).alloc (Nat.le_refl _) _).alloc (by simp) _
            have z0 : W9.cell? ⟨wr.heap.size, 0, none⟩ = some (.int .i64 (f : Int)) := by rw [hW9]; exact Lib.cell?_alloc_some _ (by simp)
            have z1 : W9.cell? ⟨wr.heap.size, 1, none⟩ = some (.int .i64 (tt : Int)) := by rw [hW9]; exact Lib.cell?_alloc_some _ (by simp)
            have z2 : W9.cell? ⟨wr.heap.size, 2, none⟩ = some (.bool s1) := by rw [hW9]; exact Lib.cell?_alloc_some _ (by simp)
            have z3 : W9.cell? ⟨wr.heap.size, 3, none⟩ = some (.slice A1 n1 c1) := by rw [hW9]; exact Lib.cell?_alloc_some _ (by simp)
            have z4 : W9.cell? ⟨wr.heap.size, 4, none⟩ = some (.slice B1 m1 d1) := by rw [hW9]; exact Lib.cell?_alloc_some _ (by simp)
            have i0 : W9.cell? ⟨wr.heap.size + 1, 0, none⟩ = some (.bool s4) := by rw [hW9]; exact (World.cell?_alloc_at _ _ _ _ (by simp)).trans rfl
            have i1 : W9.cell? ⟨wr.heap.size + 1, 1, none⟩ = some (.slice A4 n4 c4) := by rw [hW9]; exact (World.cell?_alloc_at _ _ _ _ (by simp)).trans rfl
            have i2 : W9.cell? ⟨wr.heap.size + 1, 2, none⟩ = some (.slice B4 m4 d4) := by rw [hW9]; exact (World.cell?_alloc_at _ _ _ _ (by simp)).trans rfl
            have hz9 : W9.heap.size = wr.heap.size + 2 := by rw [hW9]; simp
            have w0 := (hAL.cell (p := ⟨bx, ox + f * 3, none⟩) hbx9).trans x0
            have w1' := (hAL.cell (p := ⟨bx, ox + f * 3 + 1, none⟩) hbx9).trans x1
            have w2' := (hAL.cell (p := ⟨bx, ox + f * 3 + 2, none⟩) hbx9).trans x2
            have w3' := (hAL.cell (p := ⟨bx, ox + tt * 3, none⟩) hbx9).trans x3
            have w4' := (hAL.cell (p := ⟨bx, ox + tt * 3 + 1, none⟩) hbx9).trans x4
            have w5' := (hAL.cell (p := ⟨bx, ox + tt * 3 + 2, none⟩) hbx9).trans x5
            have HAL2 := Lib.hid hAL
            have hq1 : wr.heap.size < W9.heap.size := by omega
            have hq2 : wr.heap.size + 1 < W9.heap.size := by omega
            have hq3 : bx < W9.heap.size := by omega
            have KM1 := Lib.hid (fun W (hb : Below W9.heap.size W9 W) => mulQ (HQf.out.below (HAL2.out.trans (hb.mono (by omega)))) (HQm.out.below (HAL2.out.trans (hb.mono (by omega)))) (by omega) (by omega))
            have KM2 := Lib.hid (fun W (hb : Below W9.heap.size W9 W) => mulQ (HQt.out.below (HAL2.out.trans (hb.mono (by omega)))) (HQb.out.below (HAL2.out.trans (hb.mono (by omega)))) (by omega) (by omega))
            clear hW9 hAL x0 x1 x2 x3 x4 x5 g0 g1 g2 g3 g4 HAL
            by_cases he : X f * q = X tt * bq
            · have KC : Hid (∀ W b b' v v', OwQ W b v (X f * q) → OwQ W b' v' (X tt * bq) → Calls Tryz.prog 17 #[v, v'] W fun e w' => e = .returned (.int .i64 0) ∧ Below W.heap.size W w') := by
                show ∀ _, _
                intro W b b' v v' h1 h2
                have := cmpQ (h1.rq hS1) (h2.rq hS2) (by omega) (by omega)
                rw [he, Rat.sub_self] at this
                exact this
              have HA2 := Lib.hid (HALL.out he)
              clear he
              go_region_held3 (fun W => W.cell? ⟨wr.heap.size, 0, none⟩ = some (.int .i64 (f : Int)) ∧ W.cell? ⟨wr.heap.size, 1, none⟩ = some (.int .i64 (tt : Int)) ∧ W.cell? ⟨wr.heap.size, 2, none⟩ = some (.bool s1) ∧ W.cell? ⟨wr.heap.size, 3, none⟩ = some (.slice A1 n1 c1) ∧ W.cell? ⟨wr.heap.size, 4, none⟩ = some (.slice B1 m1 d1) ∧ W.cell? ⟨bx, ox + f * 3, none⟩ = some (.bool s2) ∧ W.cell? ⟨bx, ox + f * 3 + 1, none⟩ = some (.slice A2 n2 c2) ∧ W.cell? ⟨bx, ox + f * 3 + 2, none⟩ = some (.slice B2 m2 d2) ∧ W.cell? ⟨bx, ox + tt * 3, none⟩ = some (.bool s3) ∧ W.cell? ⟨bx, ox + tt * 3 + 1, none⟩ = some (.slice A3 n3 c3) ∧ W.cell? ⟨bx, ox + tt * 3 + 2, none⟩ = some (.slice B3 m3 d3) ∧ W.cell? ⟨wr.heap.size + 1, 0, none⟩ = some (.bool s4) ∧ W.cell? ⟨wr.heap.size + 1, 1, none⟩ = some (.slice A4 n4 c4) ∧ W.cell? ⟨wr.heap.size + 1, 2, none⟩ = some (.slice B4 m4 d4)) (go_keep)
                (first | ((go_at_call 12; (with_reducible refine (KM1.out _ (by (skip); repeat' (first | (with_reducible exact Below.refl _ _) | (with_reducible assumption) | (with_reducible refine Below.alloc ?_ ?_ _) | (with_reducible refine Below.drew ?_) | (with_reducible refine below_drewN ?_ _) | (with_reducible refine Below.setCell ?_ ?_ _) | (with_reducible refine Below.trans ?_ (Below.mono (by with_reducible assumption) ?_)) | omega | (simp only [ZA, ZS, ZD, ZN]; omega) | go_size))).mono ?_); rintro e wa ⟨⟨va, rfl, oa⟩, hba⟩; have hbaz := Below.size hba; (try simp only [ZA, ZS, ZD] at hbaz); have hbac0 := fun o => below_at hba (wr.heap.size) o (by first | omega | (simp only [ZA, ZS, ZD]; omega)); have hbaf0 := fun o => below_fr hba (wr.heap.size) o (by first | omega | (simp only [ZA, ZS, ZD]; omega)); have hbal0 : wr.heap.size < (wa).heap.size := (by omega); have hbac1 := fun o => below_at hba (bx) o (by first | omega | (simp only [ZA, ZS, ZD]; omega)); have hbaf1 := fun o => below_fr hba (bx) o (by first | omega | (simp only [ZA, ZS, ZD]; omega)); have hbal1 : bx < (wa).heap.size := (by omega); have hbac2 := fun o => below_at hba (wr.heap.size + 1) o (by first | omega | (simp only [ZA, ZS, ZD]; omega)); have hbaf2 := fun o => below_fr hba (wr.heap.size + 1) o (by first | omega | (simp only [ZA, ZS, ZD]; omega)); have hbal2 : wr.heap.size + 1 < (wa).heap.size := (by omega)); obtain ⟨s7, A7, n7, c7, B7, m7, d7, rfl⟩ := oa.form) | ((go_at_call 12; (with_reducible refine (KM2.out _ (by have z0 := Below.size hba; (try simp only [ZA, ZS, ZD, ZN] at z0 ⊢; skip); repeat' (first | (with_reducible exact Below.refl _ _) | (with_reducible assumption) | (with_reducible refine Below.alloc ?_ ?_ _) | (with_reducible refine Below.drew ?_) | (with_reducible refine below_drewN ?_ _) | (with_reducible refine Below.setCell ?_ ?_ _) | (with_reducible refine Below.trans ?_ (Below.mono (by with_reducible assumption) ?_)) | omega | (simp only [ZA, ZS, ZD, ZN]; omega) | go_size))).mono ?_); rintro e wb ⟨⟨vb, rfl, ob⟩, hbb⟩; have hbbz := Below.size hbb; (try simp only [ZA, ZS, ZD] at hbbz); have hbbc0 := fun o => below_at hbb (wr.heap.size) o (by first | omega | (simp only [ZA, ZS, ZD]; omega)); have hbbf0 := fun o => below_fr hbb (wr.heap.size) o (by first | omega | (simp only [ZA, ZS, ZD]; omega)); have hbbl0 : wr.heap.size < (wb).heap.size := (by omega); have hbbc1 := fun o => below_at hbb (bx) o (by first | omega | (simp only [ZA, ZS, ZD]; omega)); have hbbf1 := fun o => below_fr hbb (bx) o (by first | omega | (simp only [ZA, ZS, ZD]; omega)); have hbbl1 : bx < (wb).heap.size := (by omega); have hbbc2 := fun o => below_at hbb (wr.heap.size + 1) o (by first | omega | (simp only [ZA, ZS, ZD]; omega)); have hbbf2 := fun o => below_fr hbb (wr.heap.size + 1) o (by first | omega | (simp only [ZA, ZS, ZD]; omega)); have hbbl2 : wr.heap.size + 1 < (wb).heap.size := (by omega)); obtain ⟨s8, A8, n8, c8, B8, m8, d8, rfl⟩ := ob.form) | ((go_at_call 17; (with_reducible refine (KC.out _ _ _ _ _ (oa.below hbb) ob).mono ?_); rintro e wc ⟨rfl, hbc⟩; have hbcz := Below.size hbc; (try simp only [ZA, ZS, ZD] at hbcz); have hbcc0 := fun o => below_at hbc (wr.heap.size) o (by first | omega | (simp only [ZA, ZS, ZD]; omega)); have hbcf0 := fun o => below_fr hbc (wr.heap.size) o (by first | omega | (simp only [ZA, ZS, ZD]; omega)); have hbcl0 : wr.heap.size < (wc).heap.size := (by omega); have hbcc1 := fun o => below_at hbc (bx) o (by first | omega | (simp only [ZA, ZS, ZD]; omega)); have hbcf1 := fun o => below_fr hbc (bx) o (by first | omega | (simp only [ZA, ZS, ZD]; omega)); have hbcl1 : bx < (wc).heap.size := (by omega); have hbcc2 := fun o => below_at hbc (wr.heap.size + 1) o (by first | omega | (simp only [ZA, ZS, ZD]; omega)); have hbcf2 := fun o => below_fr hbc (wr.heap.size + 1) o (by first | omega | (simp only [ZA, ZS, ZD]; omega)); have hbcl2 : wr.heap.size + 1 < (wc).heap.size := (by omega))) | fail)
              all_goals
                have hBz : Below W9.heap.size W9 wc := (by have z0 := Below.size hba; have z1 := Below.size hbb; have z2 := Below.size hbc; (try simp only [ZA, ZS, ZD, ZN] at z0 z1 z2 ⊢; skip); repeat' (first | (with_reducible exact Below.refl _ _) | (with_reducible assumption) | (with_reducible refine Below.alloc ?_ ?_ _) | (with_reducible refine Below.drew ?_) | (with_reducible refine below_drewN ?_ _) | (with_reducible refine Below.setCell ?_ ?_ _) | (with_reducible refine Below.trans ?_ (Below.mono (by with_reducible assumption) ?_)) | omega | (simp only [ZA, ZS, ZD, ZN]; omega) | go_size))
                have HBz := Lib.hid (HB.out.trans ((HAL2.out.trans (hBz.mono (by omega))).mono hzr))
                clear hBz hba hbb hbc oa ob
                go_wp2
                go_roundw
                case rel => exact ⟨k + 1, by omega, by go_num, HA2.out, HBz.out⟩
                case measure => simp [intOf]; omega
            · obtain ⟨z, hz⟩ : ∃ z, z = sgnQ (X f * q - X tt * bq) := ⟨_, rfl⟩
              have ez : (z != 0) = true := by
                rw [hz, bne_iff_ne]
                exact fun e => he (by have := sgnQ_zero.1 e; grind)
              have KC : Hid (∀ W b b' v v', OwQ W b v (X f * q) → OwQ W b' v' (X tt * bq) → Calls Tryz.prog 17 #[v, v'] W fun e w' => e = .returned (.int .i64 z) ∧ Below W.heap.size W w') := by
                show ∀ _, _
                intro W b b' v v' h1 h2
                rw [hz]
                exact cmpQ (h1.rq hS1) (h2.rq hS2) (by omega) (by omega)
              have HN2 := Lib.hid (HDNk.out he)
              clear he hz
              go_region_held3 (fun W => W.cell? ⟨wr.heap.size, 0, none⟩ = some (.int .i64 (f : Int)) ∧ W.cell? ⟨wr.heap.size, 1, none⟩ = some (.int .i64 (tt : Int)) ∧ W.cell? ⟨wr.heap.size, 2, none⟩ = some (.bool s1) ∧ W.cell? ⟨wr.heap.size, 3, none⟩ = some (.slice A1 n1 c1) ∧ W.cell? ⟨wr.heap.size, 4, none⟩ = some (.slice B1 m1 d1) ∧ W.cell? ⟨bx, ox + f * 3, none⟩ = some (.bool s2) ∧ W.cell? ⟨bx, ox + f * 3 + 1, none⟩ = some (.slice A2 n2 c2) ∧ W.cell? ⟨bx, ox + f * 3 + 2, none⟩ = some (.slice B2 m2 d2) ∧ W.cell? ⟨bx, ox + tt * 3, none⟩ = some (.bool s3) ∧ W.cell? ⟨bx, ox + tt * 3 + 1, none⟩ = some (.slice A3 n3 c3) ∧ W.cell? ⟨bx, ox + tt * 3 + 2, none⟩ = some (.slice B3 m3 d3) ∧ W.cell? ⟨wr.heap.size + 1, 0, none⟩ = some (.bool s4) ∧ W.cell? ⟨wr.heap.size + 1, 1, none⟩ = some (.slice A4 n4 c4) ∧ W.cell? ⟨wr.heap.size + 1, 2, none⟩ = some (.slice B4 m4 d4)) (go_keep)
                (first | ((go_at_call 12; (with_reducible refine (KM1.out _ (by (skip); repeat' (first | (with_reducible exact Below.refl _ _) | (with_reducible assumption) | (with_reducible refine Below.alloc ?_ ?_ _) | (with_reducible refine Below.drew ?_) | (with_reducible refine below_drewN ?_ _) | (with_reducible refine Below.setCell ?_ ?_ _) | (with_reducible refine Below.trans ?_ (Below.mono (by with_reducible assumption) ?_)) | omega | (simp only [ZA, ZS, ZD, ZN]; omega) | go_size))).mono ?_); rintro e wa ⟨⟨va, rfl, oa⟩, hba⟩; have hbaz := Below.size hba; (try simp only [ZA, ZS, ZD] at hbaz); have hbac0 := fun o => below_at hba (wr.heap.size) o (by first | omega | (simp only [ZA, ZS, ZD]; omega)); have hbaf0 := fun o => below_fr hba (wr.heap.size) o (by first | omega | (simp only [ZA, ZS, ZD]; omega)); have hbal0 : wr.heap.size < (wa).heap.size := (by omega); have hbac1 := fun o => below_at hba (bx) o (by first | omega | (simp only [ZA, ZS, ZD]; omega)); have hbaf1 := fun o => below_fr hba (bx) o (by first | omega | (simp only [ZA, ZS, ZD]; omega)); have hbal1 : bx < (wa).heap.size := (by omega); have hbac2 := fun o => below_at hba (wr.heap.size + 1) o (by first | omega | (simp only [ZA, ZS, ZD]; omega)); have hbaf2 := fun o => below_fr hba (wr.heap.size + 1) o (by first | omega | (simp only [ZA, ZS, ZD]; omega)); have hbal2 : wr.heap.size + 1 < (wa).heap.size := (by omega)); obtain ⟨s7, A7, n7, c7, B7, m7, d7, rfl⟩ := oa.form) | ((go_at_call 12; (with_reducible refine (KM2.out _ (by have z0 := Below.size hba; (try simp only [ZA, ZS, ZD, ZN] at z0 ⊢; skip); repeat' (first | (with_reducible exact Below.refl _ _) | (with_reducible assumption) | (with_reducible refine Below.alloc ?_ ?_ _) | (with_reducible refine Below.drew ?_) | (with_reducible refine below_drewN ?_ _) | (with_reducible refine Below.setCell ?_ ?_ _) | (with_reducible refine Below.trans ?_ (Below.mono (by with_reducible assumption) ?_)) | omega | (simp only [ZA, ZS, ZD, ZN]; omega) | go_size))).mono ?_); rintro e wb ⟨⟨vb, rfl, ob⟩, hbb⟩; have hbbz := Below.size hbb; (try simp only [ZA, ZS, ZD] at hbbz); have hbbc0 := fun o => below_at hbb (wr.heap.size) o (by first | omega | (simp only [ZA, ZS, ZD]; omega)); have hbbf0 := fun o => below_fr hbb (wr.heap.size) o (by first | omega | (simp only [ZA, ZS, ZD]; omega)); have hbbl0 : wr.heap.size < (wb).heap.size := (by omega); have hbbc1 := fun o => below_at hbb (bx) o (by first | omega | (simp only [ZA, ZS, ZD]; omega)); have hbbf1 := fun o => below_fr hbb (bx) o (by first | omega | (simp only [ZA, ZS, ZD]; omega)); have hbbl1 : bx < (wb).heap.size := (by omega); have hbbc2 := fun o => below_at hbb (wr.heap.size + 1) o (by first | omega | (simp only [ZA, ZS, ZD]; omega)); have hbbf2 := fun o => below_fr hbb (wr.heap.size + 1) o (by first | omega | (simp only [ZA, ZS, ZD]; omega)); have hbbl2 : wr.heap.size + 1 < (wb).heap.size := (by omega)); obtain ⟨s8, A8, n8, c8, B8, m8, d8, rfl⟩ := ob.form) | ((go_at_call 17; (with_reducible refine (KC.out _ _ _ _ _ (oa.below hbb) ob).mono ?_); rintro e wc ⟨rfl, hbc⟩; have hbcz := Below.size hbc; (try simp only [ZA, ZS, ZD] at hbcz); have hbcc0 := fun o => below_at hbc (wr.heap.size) o (by first | omega | (simp only [ZA, ZS, ZD]; omega)); have hbcf0 := fun o => below_fr hbc (wr.heap.size) o (by first | omega | (simp only [ZA, ZS, ZD]; omega)); have hbcl0 : wr.heap.size < (wc).heap.size := (by omega); have hbcc1 := fun o => below_at hbc (bx) o (by first | omega | (simp only [ZA, ZS, ZD]; omega)); have hbcf1 := fun o => below_fr hbc (bx) o (by first | omega | (simp only [ZA, ZS, ZD]; omega)); have hbcl1 : bx < (wc).heap.size := (by omega); have hbcc2 := fun o => below_at hbc (wr.heap.size + 1) o (by first | omega | (simp only [ZA, ZS, ZD]; omega)); have hbcf2 := fun o => below_fr hbc (wr.heap.size + 1) o (by first | omega | (simp only [ZA, ZS, ZD]; omega)); have hbcl2 : wr.heap.size + 1 < (wc).heap.size := (by omega))) | fail)
              all_goals
                have hBz : Below W9.heap.size W9 wc := (by have z0 := Below.size hba; have z1 := Below.size hbb; have z2 := Below.size hbc; (try simp only [ZA, ZS, ZD, ZN] at z0 z1 z2 ⊢; skip); repeat' (first | (with_reducible exact Below.refl _ _) | (with_reducible assumption) | (with_reducible refine Below.alloc ?_ ?_ _) | (with_reducible refine Below.drew ?_) | (with_reducible refine below_drewN ?_ _) | (with_reducible refine Below.setCell ?_ ?_ _) | (with_reducible refine Below.trans ?_ (Below.mono (by with_reducible assumption) ?_)) | omega | (simp only [ZA, ZS, ZD, ZN]; omega) | go_size))
                have HBz := Lib.hid (HBw.out.trans ((HAL2.out.trans (hBz.mono (by omega))).mono (by have := HBw.out.size; omega)))
                clear hBz hba hbb hbc oa ob
                go_wp2
                go_ret2
                exact ⟨by rw [HN2.out]; rfl, HBz.out⟩
          · have hkm : k = c.nm := by omega
            subst hkm
            have HT := Lib.hid (HDY.out HAll.out)
            have HBF := Lib.hid hbw
            clear hb hbw
            go_wp2
            go_ret2
            exact ⟨by rw [HT.out]; rfl, HBF.out⟩
  · have HX : Hid (c.detV n R = false) := by show c.detV n R = _; unfold Chn.detV; rw [if_neg hB]
    rw [errM_n hB] at K1
    rw [errM_n hB, HX.out]
    clear h hB HX
    go_enter Tryz.func28, Tryz.ntmps28
    (go_wp2_with fail; (with_reducible refine (K1.out _ (by (skip); repeat' (first | (with_reducible exact Below.refl _ _) | (with_reducible assumption) | (with_reducible refine Below.alloc ?_ ?_ _) | (with_reducible refine Below.drew ?_) | (with_reducible refine below_drewN ?_ _) | (with_reducible refine Below.setCell ?_ ?_ _) | (with_reducible refine Below.trans ?_ (Below.mono (by with_reducible assumption) ?_)) | omega | (simp only [ZA, ZS, ZD, ZN]; omega) | go_size))).mono ?_); rintro e w1 ⟨rfl, hb1⟩; have hb1z := Below.size hb1; (try simp only [ZA, ZS, ZD, ZN] at hb1z); have hb1c0 := fun o => below_at hb1 (w.heap.size) o (by first | omega | (simp only [ZA, ZS, ZD, ZN]; omega)); have hb1f0 := fun o => below_fr hb1 (w.heap.size) o (by first | omega | (simp only [ZA, ZS, ZD, ZN]; omega)))
    have hB1 := HPB.out w1 (by rw [← hW0z]; exact hb1)
    go_wp2
    go_ret2
    exact ⟨rfl, hB1⟩
end Go.Proofs.YtmebdlilbnadgaaGreatDoor
