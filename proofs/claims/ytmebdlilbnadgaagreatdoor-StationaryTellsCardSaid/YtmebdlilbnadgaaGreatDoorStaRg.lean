/- Contracts of functions and lemmas, used by the proofs of the given statements. No condition beyond those that each lemma names. -/
import Derived.Test.YtmebdlilbnadgaaGreatDoorStaRf
import Derived.Test.YtmebdlilbnadgaaGreatDoorJLinY
namespace Go.Proofs.YtmebdlilbnadgaaGreatDoor
open Go.RowKit
set_option linter.unusedSimpArgs false
set_option linter.unusedVariables false
set_option maxRecDepth 20000
attribute [local irreducible] nv wp win plainB validR valR canR mvE chkM codeC netS sumN dsum floG
/-! ## reference: rate, Detailed -/
theorem RdQ.moreS {w : World} {L M : Nat} {v : Value} {q : Rat} (h : RdQ w L v q) (hL : L ≤ M) : RdQ w M v q := by
  obtain ⟨r, h1, h2, h3, h4⟩ := h
  exact ⟨r, h1, h2, by omega, by omega⟩
set_option maxHeartbeats 8000000 in
theorem rrate_any {w : World} {AM AD : Option Addr} {cm cd a b : Nat} {c : Chn} (h : ChI w w.heap.size AM cm AD cd c) (ok : c.Ok) (hs : ChS c 400) :
    Calls Tryz.prog 68 #[cv c.st c.sr AM c.nm cm AD c.nd cd, .int .i64 (a : Int), .int .i64 (b : Int)] w fun e w' => (∃ v, e = .returned v ∧ RdQ w' 400 v (c.rt a b)) ∧ Below w.heap.size w w' := by
  have HMV := Lib.hid (fun W hb k hk => h.mv_later (W := W) ok hb (k := k) hk)
  have HSQ := Lib.hid (fun k hk => (hs.siz ok).raw k hk)
  have HRY : Hid (∀ k, k < c.nm → c.f k = a → c.t k = b → c.rt a b = c.q k) := fun k hk h1 h2 => by rw [← h1, ← h2]; exact Chn.rt_at ok hk
  have HRN : Hid ((∀ k, k < c.nm → ¬ (c.f k = a ∧ c.t k = b)) → c.rt a b = 0) := fun h => Chn.rt_none h
  obtain ⟨RT, hRT⟩ : ∃ RT, RT = c.rt a b := ⟨_, rfl⟩
  rw [← hRT] at HRY HRN ⊢
  have HPB := Lib.hid (fun W hb => par_below (W := W) (w := w) (o := .cells #[.int .i64 c.st, .int .i64 c.sr, .slice AM c.nm cm, .slice AD c.nd cd] 25) hb)
  have HPC := Lib.hid (fun W hb => par_cells (W := W) (w := w) (a := .int .i64 c.st) (b := .int .i64 c.sr) (d := .slice AM c.nm cm) (e := .slice AD c.nd cd) (t := 25) hb)
  have hW0z : (w.alloc (.cells #[.int .i64 c.st, .int .i64 c.sr, .slice AM c.nm cm, .slice AD c.nd cd] 25)).heap.size = w.heap.size + 1 := by simp
  have HAL0 : Hid (Below (w.heap.size + 1) (w.alloc (.cells #[.int .i64 c.st, .int .i64 c.sr, .slice AM c.nm cm, .slice AD c.nd cd] 25)) ((w.alloc (.cells #[.int .i64 c.st, .int .i64 c.sr, .slice AM c.nm cm, .slice AD c.nd cd] 25)).alloc (.cells #[.bool false, .slice none 0 0, .slice none 0 0] 30))) := (Below.refl _ _).alloc (by simp) _
  have HVR : Hid (VarR (w.heap.size + 1) 0 ((w.alloc (.cells #[.int .i64 c.st, .int .i64 c.sr, .slice AM c.nm cm, .slice AD c.nd cd] 25)).alloc (.cells #[.bool false, .slice none 0 0, .slice none 0 0] 30))) := by
    have h1 := VarR.new (w.alloc (.cells #[.int .i64 c.st, .int .i64 c.sr, .slice AM c.nm cm, .slice AD c.nd cd] 25))
    rw [hW0z] at h1
    exact h1
  obtain ⟨-, -, y2, -⟩ := HPC.out _ HAL0.out
  have hnm := hs.nm
  clear h ok hs hRT
  go_enter Tryz.func68, Tryz.ntmps68
  go_wp2
  generalize w.alloc (.cells #[.int .i64 c.st, .int .i64 c.sr, .slice AM c.nm cm, .slice AD c.nd cd] 25) = W0 at *
  generalize W0.alloc (.cells #[.bool false, .slice none 0 0, .slice none 0 0] 30) = W1 at *
  go_loopw [12] (fun i wr => ∃ k : Nat, k ≤ c.nm ∧ i = .int .i64 (k : Int) ∧ (∀ j, j < k → ¬ (c.f j = a ∧ c.t j = b)) ∧ Below W1.heap.size W1 wr) (fun i _ => c.nm - (intOf i).toNat)
  case atStart => exact ⟨0, Nat.zero_le _, rfl, fun j hj => by omega, Below.refl _ _⟩
  case round =>
    clear y2
    obtain ⟨k, hk, rfl, hno, hb⟩ := hrel
    have HNo := Lib.hid hno
    clear hno
    have hz := hb.size
    have hz1 := HAL0.out.size
    have hbr := HAL0.out.trans (hb.mono (by omega))
    have hbw := HPB.out _ hbr
    have vr := HVR.out.below hb
    have HVQ := Lib.hid vr
    obtain ⟨⟨s7, A7, n7, c7, B7, m7, d7, p0, p1, p2, -⟩, -, hrz2, hrf⟩ := vr
    by_cases hlt : k < c.nm
    · obtain ⟨bm, om, s1, A1, n1, c1, B1, m1, d1, rfl, hbm, g0, g1, g2, g3, g4, r1, hfn, htn, hft⟩ := HMV.out wr hbw k hlt
      obtain ⟨q1, q2⟩ := HSQ.out k hlt
      have hRY := HRY.out k hlt
      have hRq : ∀ W, RdS W w.heap.size (rv s1 A1 n1 c1 B1 m1 d1) (c.R k) → RdQ W 400 (rv s1 A1 n1 c1 B1 m1 d1) (c.q k) := fun W hr => hr.rdq (L := 400) q1 q2
      have hnx : ¬ (c.f k = a ∧ c.t k = b) → ∀ j, j < k + 1 → ¬ (c.f j = a ∧ c.t j = b) := fun h j hj => by
        by_cases e : j = k
        · rw [e]; exact h
        · exact HNo.out j (by omega)
      obtain ⟨f, hf⟩ : ∃ f, f = c.f k := ⟨_, rfl⟩
      obtain ⟨tt, ht⟩ : ∃ tt, tt = c.t k := ⟨_, rfl⟩
      rw [← hf] at g0 hRY hnx
      rw [← ht] at g1 hRY hnx
      have HRk := Lib.hid hRY
      have HRq := Lib.hid hRq
      have HNx := Lib.hid hnx
      have hki : (k : Int) < (c.nm : Int) := by omega
      have hk0 : (0 : Int) ≤ (k : Int) := by omega
      have HB := Lib.hid hb
      have HBw := Lib.hid hbw
      have HR1 := Lib.hid r1
      have hal : Below wr.heap.size wr (wr.alloc (.cells #[.int .i64 (f : Int), .int .i64 (tt : Int), .bool s1, .slice A1 n1 c1, .slice B1 m1 d1] 33)) := (Below.refl _ _).alloc (Nat.le_refl _) _
      have HAL := Lib.hid hal
      clear hf ht hft hfn htn r1 hRY hRq hnx hb hbw hbr hal q1 q2
      by_cases h1 : f = a
      · have e1 : ((f : Int) == (a : Int)) = true := by simp [h1]
        by_cases h2 : tt = b
        · have e2 : ((tt : Int) == (b : Int)) = true := by simp [h2]
          have HE := Lib.hid (HRk.out h1 h2)
          have s9 := set3 (w := wr) (g := w.heap.size + 1) (o := 0) (a := .bool s1) (b := .slice A1 n1 c1) (d := .slice B1 m1 d1) p0 p1 p2
          have hrs := (HR1.out.kp (Kp.store3 HVQ.out.2.1 (show w.heap.size ≤ w.heap.size + 1 by omega) (.bool s1) (.slice A1 n1 c1) (.slice B1 m1 d1)))
          have hbf := below_set3 HBw.out (show w.heap.size ≤ w.heap.size + 1 by omega) (.bool s1) (.slice A1 n1 c1) (.slice B1 m1 d1)
          have HRS := Lib.hid hrs
          have HBF := Lib.hid hbf
          clear h1 h2 hrs hbf
          go_wp2
          obtain ⟨t0, t1, t2⟩ := s9
          have T0 := Lib.cell?_alloc_some (.cells #[.int .i64 (f : Int), .int .i64 (tt : Int), .bool s1, .slice A1 n1 c1, .slice B1 m1 d1] 33) t0
          have T1 := Lib.cell?_alloc_some (.cells #[.int .i64 (f : Int), .int .i64 (tt : Int), .bool s1, .slice A1 n1 c1, .slice B1 m1 d1] 33) t1
          have T2 := Lib.cell?_alloc_some (.cells #[.int .i64 (f : Int), .int .i64 (tt : Int), .bool s1, .slice A1 n1 c1, .slice B1 m1 d1] 33) t2
          refine bodyPost_ret (v := (rv s1 A1 n1 c1 B1 m1 d1)) (by simp [results, Tryz.results68, go_sem, T0, T1, T2]) rfl ?_
          exact ⟨⟨_, rfl, by rw [HE.out]; exact HRq.out _ (HRS.out.kp (Kp.of_below ((Below.refl _ _).alloc (Nat.le_refl _) _)))⟩, HBF.out.alloc (by have := HBF.out.size; omega) _⟩
        · have e2 : ((tt : Int) == (b : Int)) = false := by simp; omega
          have HN2 := Lib.hid (HNx.out (fun h => h2 h.2))
          clear h1 h2
          go_wp2
          go_roundw
          case rel => exact ⟨k + 1, by omega, by go_num, HN2.out, HB.out.trans (HAL.out.mono (by omega))⟩
          case measure => simp [intOf]; omega
      · have e1 : ((f : Int) == (a : Int)) = false := by simp; omega
        have HN2 := Lib.hid (HNx.out (fun h => h1 h.1))
        clear h1
        go_wp2
        go_roundw
        case rel => exact ⟨k + 1, by omega, by go_num, HN2.out, HB.out.trans (HAL.out.mono (by omega))⟩
        case measure => simp [intOf]; omega
    · have hkm : k = c.nm := by omega
      subst hkm
      have HE := Lib.hid (HRN.out HNo.out)
      have s9 := set3 (w := wr) (g := w.heap.size + 1) (o := 0) (a := .bool false) (b := .slice none 0 0) (d := .slice none 0 0) p0 p1 p2
      have hbf := below_set3 hbw (show w.heap.size ≤ w.heap.size + 1 by omega) (.bool false) (.slice none 0 0) (.slice none 0 0)
      have HBF := Lib.hid hbf
      clear hbf hb hbw hbr
      go_wp2
      obtain ⟨t0, t1, t2⟩ := s9
      refine bodyPost_ret (v := (zr)) (by simp [results, Tryz.results68, go_sem, t0, t1, t2]) rfl ?_
      exact ⟨⟨_, rfl, by rw [HE.out]; exact (RdS.zr _ 0).canQ (Sz.zero (by omega))⟩, HBF.out⟩
set_option maxHeartbeats 16000000 in
theorem rDetailed_any {w : World} {AM AD AV : Option Addr} {cm cd n ca : Nat} {c : Chn} {R : Nat → Rw} (h : DistS w AM cm AD cd c AV n R) :
    Calls Tryz.prog 34 #[cv c.st c.sr AM c.nm cm AD c.nd cd, .slice AV n ca] w fun e w' => e = .returned (.tuple #[.bool (c.detV n R), .int .i64 (c.codeB n R)]) ∧ Below w.heap.size w w' := by
  have K1 := Lib.hid (fun W (hb : Below w.heap.size w W) => rerrS_any (ca := ca) (h.below hb))
  have HPB := Lib.hid (fun W hb => par_below (W := W) (w := w) (o := .cells #[.int .i64 c.st, .int .i64 c.sr, .slice AM c.nm cm, .slice AD c.nd cd] 25) hb)
  have HPC := Lib.hid (fun W hb => par_cells (W := W) (w := w) (a := .int .i64 c.st) (b := .int .i64 c.sr) (d := .slice AM c.nm cm) (e := .slice AD c.nd cd) (t := 25) hb)
  have hW0z : (w.alloc (.cells #[.int .i64 c.st, .int .i64 c.sr, .slice AM c.nm cm, .slice AD c.nd cd] 25)).heap.size = w.heap.size + 1 := by simp
  by_cases hB : c.codeB n R = 0
  · obtain ⟨h0, hnn, hv0⟩ := Chn.codeB_0 hB
    have ok := Chn.ok_iff.1 h0
    have hn1 := ok.lo
    have hn9 := h.sm.nd ok
    have hnm := h.sm.nm
    have hfz := h.fz hB
    have hVc := h.vec hB
    have HX : Hid (c.detV n R = c.detB (vecQ n R)) := by show c.detV n R = _; unfold Chn.detV; rw [if_pos hB]
    rw [hB] at K1
    rw [hB, HX.out]
    have KR := Lib.hid (fun W (hb : Below w.heap.size w W) a b => rrate_any (a := a) (b := b) (h.below hb).ch ok h.sm.ch)
    subst hnn
    obtain ⟨X, hX⟩ : ∃ X, X = vecQ c.nd R := ⟨_, rfl⟩
    rw [← hX] at hfz hVc ⊢
    obtain ⟨M, hM⟩ : ∃ M, M = 220000100 := ⟨_, rfl⟩
    have HSR : Hid (∀ s a b, Sz M (X s * c.rt a b)) := fun s a b => (h.sm.rtS ok hfz s a b).more (by omega)
    have HXS : Hid (∀ s, Sz M (X s)) := fun s => ((hfz.more (show 220000000 ≤ 220000001 by omega)).sz (by omega) s).more (by omega)
    have HDY : Hid ((∀ a, a < c.nd → ∀ b, b < a → X a * c.rt a b = X b * c.rt b a) → c.detB X = true) := fun h => (Chn.det_half ok).2 h
    have HDN : Hid (∀ a, a < c.nd → ∀ b, b < a → ¬ X a * c.rt a b = X b * c.rt b a → c.detB X = false) := fun a ha b hb hne => by
      cases e : c.detB X
      · rfl
      · exact absurd ((Chn.det_half ok).1 e a ha b hb) hne
    obtain ⟨bD, hbD⟩ : ∃ bD, bD = c.detB X := ⟨_, rfl⟩
    rw [← hbD] at HDY HDN ⊢
    obtain ⟨RT, hRT⟩ : ∃ RT : Nat → Nat → Rat, RT = c.rt := ⟨_, rfl⟩
    rw [← hRT] at HSR HDY HDN KR
    have HV := Lib.hid hVc
    have hML : 400 ≤ M ∧ M ≤ 1000000000 := by omega
    have hst := ok.st
    rw [hst] at K1 KR HPB HPC hW0z ⊢
    obtain ⟨sr, hsr⟩ : ∃ sr, sr = c.sr := ⟨_, rfl⟩
    rw [← hsr] at K1 KR HPB HPC hW0z ⊢
    clear h hB h0 hv0 ok hst hX hM hbD hRT hsr hfz hVc HX
    go_enter Tryz.func34, Tryz.ntmps34
    (go_wp2_with fail; (with_reducible refine (K1.out _ (by (skip); repeat' (first | (with_reducible exact Below.refl _ _) | (with_reducible assumption) | (with_reducible refine Below.alloc ?_ ?_ _) | (with_reducible refine Below.drew ?_) | (with_reducible refine below_drewN ?_ _) | (with_reducible refine Below.setCell ?_ ?_ _) | (with_reducible refine Below.trans ?_ (Below.mono (by with_reducible assumption) ?_)) | omega | (simp only [ZA, ZS, ZD, ZN]; omega) | go_size))).mono ?_); rintro e w1 ⟨rfl, hb1⟩; have hb1z := Below.size hb1; (try simp only [ZA, ZS, ZD, ZN] at hb1z); have hb1c0 := fun o => below_at hb1 (w.heap.size) o (by first | omega | (simp only [ZA, ZS, ZD, ZN]; omega)); have hb1f0 := fun o => below_fr hb1 (w.heap.size) o (by first | omega | (simp only [ZA, ZS, ZD, ZN]; omega)))
    have HB1 : Hid (Below (w.heap.size + 1) (w.alloc (.cells #[.int .i64 (c.nd : Int), .int .i64 sr, .slice AM c.nm cm, .slice AD c.nd cd] 25)) w1) := by show Below _ _ _; simpa using hb1
    have hz1 := HB1.out.size
    rw [hW0z] at hz1
    clear hb1 hb1c0 hb1f0 hW0z
    generalize w.alloc (.cells #[.int .i64 (c.nd : Int), .int .i64 sr, .slice AM c.nm cm, .slice AD c.nd cd] 25) = W0 at *
    obtain ⟨y0, y1, y2, y3⟩ := HPC.out _ HB1.out
    go_wp2
    go_loopw [17] (fun i wr => ∃ k : Nat, k ≤ c.nd ∧ i = .int .i64 (k : Int) ∧ (∀ a, a < k → ∀ b, b < a → X a * RT a b = X b * RT b a) ∧ Below w1.heap.size w1 wr) (fun i _ => c.nd - (intOf i).toNat)
    case atStart => exact ⟨0, Nat.zero_le _, rfl, fun j hj => by omega, Below.refl _ _⟩
    case round =>
      clear y0 y1 y2 y3
      obtain ⟨k, hk, rfl, hall, hb⟩ := hrel
      have HAll := Lib.hid hall
      clear hall
      have hz := hb.size
      by_cases hlt : k < c.nd
      · have hki : (k : Int) < (c.nd : Int) := by omega
        have hk0 : (0 : Int) ≤ (k : Int) := by omega
        obtain ⟨wo, hwo⟩ : ∃ wo, wo = wr := ⟨_, rfl⟩
        subst hwo
        have HBo := Lib.hid hb
        clear hb
        go_wp2
        go_loopw [21] (fun i wr => ∃ j : Nat, j ≤ k ∧ i = .int .i64 (j : Int) ∧ (∀ b, b < j → X k * RT k b = X b * RT b k) ∧ Below wo.heap.size wo wr) (fun i _ => k - (intOf i).toNat)
        case atStart => exact ⟨0, Nat.zero_le _, rfl, fun j hj => by omega, Below.refl _ _⟩
        case round =>
          obtain ⟨j, hj, rfl, hin, hb⟩ := hrel
          have HIn := Lib.hid hin
          clear hin
          have hzr := hb.size
          have hbr := HB1.out.trans ((HBo.out.trans (hb.mono hz)).mono (by omega))
          have hbw := HPB.out _ hbr
          by_cases hjk : j < k
          · have hjn : j < c.nd := by omega
            obtain ⟨bx, ox, s2, A2, n2, c2, B2, m2, d2, rfl, hbx, v0, v1, v2, rf2⟩ := HV.out.at_ hlt
            obtain ⟨bx', ox', s3, A3, n3, c3, B3, m3, d3, exy, -, u0, u1, u2, rt2⟩ := HV.out.at_ hjn
            injection exy with exy
            injection exy with exy1 exy2
            subst exy1 exy2
            have x0 := (hbw.cell (lt_of_cell v0)).trans v0
            have x1 := (hbw.cell (lt_of_cell v1)).trans v1
            have x2 := (hbw.cell (lt_of_cell v2)).trans v2
            have x3 := (hbw.cell (lt_of_cell u0)).trans u0
            have x4 := (hbw.cell (lt_of_cell u1)).trans u1
            have x5 := (hbw.cell (lt_of_cell u2)).trans u2
            obtain ⟨y0, y1, y2, y3⟩ := HPC.out _ hbr
            have qf := ((show RdS w _ _ (canR (X k)) from rf2).kp (Kp.of_below hbw)).canQ (HXS.out k)
            have qt := ((show RdS w _ _ (canR (X j)) from rt2).kp (Kp.of_below hbw)).canQ (HXS.out j)
            have hS1 := HSR.out k k j
            have hS2 := HSR.out j j k
            have hDN := HDN.out k hlt j hjk
            have hin' : X k * RT k j = X j * RT j k → ∀ b, b < j + 1 → X k * RT k b = X b * RT b k := fun e b hb => by
              by_cases ej : b = j
              · rw [ej]; exact e
              · exact HIn.out b (by omega)
            obtain ⟨p, hp⟩ : ∃ p, p = RT k j := ⟨_, rfl⟩
            obtain ⟨q, hq⟩ : ∃ q, q = RT j k := ⟨_, rfl⟩
            have KR1 : Hid (∀ W, Below wr.heap.size wr W → Calls Tryz.prog 68 #[cv (c.nd : Int) sr AM c.nm cm AD c.nd cd, .int .i64 (k : Int), .int .i64 (j : Int)] W fun e w' => (∃ v, e = .returned v ∧ RdQ w' 400 v p) ∧ Below W.heap.size W w') := fun W hb' => by rw [hp]; exact KR.out W (hbw.trans (hb'.mono hbw.size)) k j
            have KR2 : Hid (∀ W, Below wr.heap.size wr W → Calls Tryz.prog 68 #[cv (c.nd : Int) sr AM c.nm cm AD c.nd cd, .int .i64 (j : Int), .int .i64 (k : Int)] W fun e w' => (∃ v, e = .returned v ∧ RdQ w' 400 v q) ∧ Below W.heap.size W w') := fun W hb' => by rw [hq]; exact KR.out W (hbw.trans (hb'.mono hbw.size)) j k
            rw [← hp, ← hq] at hDN hin'
            rw [← hp] at hS1
            rw [← hq] at hS2
            have KM1 := Lib.hid (fun W v (hb' : Below wr.heap.size wr W) (hv : RdQ W 400 v p) => rmulQ (qf.below hb') (hv.moreS hML.1) (by omega) (by omega))
            have KM2 := Lib.hid (fun W v (hb' : Below wr.heap.size wr W) (hv : RdQ W 400 v q) => rmulQ (qt.below hb') (hv.moreS hML.1) (by omega) (by omega))
            have HDNk := Lib.hid hDN
            have HIN := Lib.hid hin'
            have hji : (j : Int) < (c.nd : Int) := by omega
            have hj0 : (0 : Int) ≤ (j : Int) := by omega
            have hjki : (j : Int) < (k : Int) := by omega
            have hbx9 : bx < wr.heap.size := by have := hbw.size; omega
            have hww : w.heap.size < wr.heap.size := by omega
            have HB := Lib.hid hb
            have HBw := Lib.hid hbw
            clear hp hq rf2 rt2 v0 v1 v2 u0 u1 u2 qf qt hb hbw hbr hDN hin' HIn
            by_cases he : X k * p = X j * q
            · have KC : Hid (∀ W b b' v v', OwQ W b v (X k * p) → OwQ W b' v' (X j * q) → Calls Tryz.prog 66 #[v, v'] W fun e w' => e = .returned (.int .i64 0) ∧ Below W.heap.size W w') := by
                show ∀ _, _
                intro W b b' v v' h1 h2
                have := rcmpQ (h1.rq hS1) (h2.rq hS2) (by omega) (by omega)
                rw [he, Rat.sub_self] at this
                exact this
              have HA2 := Lib.hid (HIN.out he)
              clear he
              go_wp2
              go_region_held3 (fun W => W.cell? ⟨w.heap.size, 0, none⟩ = some (.int .i64 (c.nd : Int)) ∧ W.cell? ⟨w.heap.size, 1, none⟩ = some (.int .i64 sr) ∧ W.cell? ⟨w.heap.size, 2, none⟩ = some (.slice AM c.nm cm) ∧ W.cell? ⟨w.heap.size, 3, none⟩ = some (.slice AD c.nd cd) ∧ W.cell? ⟨bx, ox + k * 3, none⟩ = some (.bool s2) ∧ W.cell? ⟨bx, ox + k * 3 + 1, none⟩ = some (.slice A2 n2 c2) ∧ W.cell? ⟨bx, ox + k * 3 + 2, none⟩ = some (.slice B2 m2 d2) ∧ W.cell? ⟨bx, ox + j * 3, none⟩ = some (.bool s3) ∧ W.cell? ⟨bx, ox + j * 3 + 1, none⟩ = some (.slice A3 n3 c3) ∧ W.cell? ⟨bx, ox + j * 3 + 2, none⟩ = some (.slice B3 m3 d3)) (go_keep)
                (first | ((go_at_call 68; (with_reducible refine (KR1.out _ (by (skip); repeat' (first | (with_reducible exact Below.refl _ _) | (with_reducible assumption) | (with_reducible refine Below.alloc ?_ ?_ _) | (with_reducible refine Below.drew ?_) | (with_reducible refine below_drewN ?_ _) | (with_reducible refine Below.setCell ?_ ?_ _) | (with_reducible refine Below.trans ?_ (Below.mono (by with_reducible assumption) ?_)) | omega | (simp only [ZA, ZS, ZD, ZN]; omega) | go_size))).mono ?_); rintro e w2 ⟨⟨va, rfl, qa⟩, hb2⟩; have hb2z := Below.size hb2; (try simp only [ZA, ZS, ZD] at hb2z); have hb2c0 := fun o => below_at hb2 (w.heap.size) o (by first | omega | (simp only [ZA, ZS, ZD]; omega)); have hb2f0 := fun o => below_fr hb2 (w.heap.size) o (by first | omega | (simp only [ZA, ZS, ZD]; omega)); have hb2l0 : w.heap.size < (w2).heap.size := (by omega); have hb2c1 := fun o => below_at hb2 (bx) o (by first | omega | (simp only [ZA, ZS, ZD]; omega)); have hb2f1 := fun o => below_fr hb2 (bx) o (by first | omega | (simp only [ZA, ZS, ZD]; omega)); have hb2l1 : bx < (w2).heap.size := (by omega)); (have q2' := Lib.hid qa); obtain ⟨ra, hra, -⟩ := qa; obtain ⟨s7, A7, n7, c7, B7, m7, d7, rfl⟩ := hra.form; clear hra) | ((go_at_call 67; (with_reducible refine (KM1.out _ _ (by have z0 := Below.size hb2; (try simp only [ZA, ZS, ZD, ZN] at z0 ⊢; skip); repeat' (first | (with_reducible exact Below.refl _ _) | (with_reducible assumption) | (with_reducible refine Below.alloc ?_ ?_ _) | (with_reducible refine Below.drew ?_) | (with_reducible refine below_drewN ?_ _) | (with_reducible refine Below.setCell ?_ ?_ _) | (with_reducible refine Below.trans ?_ (Below.mono (by with_reducible assumption) ?_)) | omega | (simp only [ZA, ZS, ZD, ZN]; omega) | go_size)) q2'.out).mono ?_); rintro e w3 ⟨⟨vb, rfl, o3⟩, hb3⟩; have hb3z := Below.size hb3; (try simp only [ZA, ZS, ZD] at hb3z); have hb3c0 := fun o => below_at hb3 (w.heap.size) o (by first | omega | (simp only [ZA, ZS, ZD]; omega)); have hb3f0 := fun o => below_fr hb3 (w.heap.size) o (by first | omega | (simp only [ZA, ZS, ZD]; omega)); have hb3l0 : w.heap.size < (w3).heap.size := (by omega); have hb3c1 := fun o => below_at hb3 (bx) o (by first | omega | (simp only [ZA, ZS, ZD]; omega)); have hb3f1 := fun o => below_fr hb3 (bx) o (by first | omega | (simp only [ZA, ZS, ZD]; omega)); have hb3l1 : bx < (w3).heap.size := (by omega)); obtain ⟨s8, A8, n8, c8, B8, m8, d8, rfl⟩ := o3.form) | ((go_at_call 68; (with_reducible refine (KR2.out _ (by have z0 := Below.size hb2; have z1 := Below.size hb3; (try simp only [ZA, ZS, ZD, ZN] at z0 z1 ⊢; skip); repeat' (first | (with_reducible exact Below.refl _ _) | (with_reducible assumption) | (with_reducible refine Below.alloc ?_ ?_ _) | (with_reducible refine Below.drew ?_) | (with_reducible refine below_drewN ?_ _) | (with_reducible refine Below.setCell ?_ ?_ _) | (with_reducible refine Below.trans ?_ (Below.mono (by with_reducible assumption) ?_)) | omega | (simp only [ZA, ZS, ZD, ZN]; omega) | go_size))).mono ?_); rintro e w4 ⟨⟨vc, rfl, qc⟩, hb4⟩; have hb4z := Below.size hb4; (try simp only [ZA, ZS, ZD] at hb4z); have hb4c0 := fun o => below_at hb4 (w.heap.size) o (by first | omega | (simp only [ZA, ZS, ZD]; omega)); have hb4f0 := fun o => below_fr hb4 (w.heap.size) o (by first | omega | (simp only [ZA, ZS, ZD]; omega)); have hb4l0 : w.heap.size < (w4).heap.size := (by omega); have hb4c1 := fun o => below_at hb4 (bx) o (by first | omega | (simp only [ZA, ZS, ZD]; omega)); have hb4f1 := fun o => below_fr hb4 (bx) o (by first | omega | (simp only [ZA, ZS, ZD]; omega)); have hb4l1 : bx < (w4).heap.size := (by omega)); (have q4' := Lib.hid qc); obtain ⟨rc, hrc, -⟩ := qc; obtain ⟨s9, A9, n9, c9, B9, m9, d9, rfl⟩ := hrc.form; clear hrc) | ((go_at_call 67; (with_reducible refine (KM2.out _ _ (by have z0 := Below.size hb2; have z1 := Below.size hb3; have z2 := Below.size hb4; (try simp only [ZA, ZS, ZD, ZN] at z0 z1 z2 ⊢; skip); repeat' (first | (with_reducible exact Below.refl _ _) | (with_reducible assumption) | (with_reducible refine Below.alloc ?_ ?_ _) | (with_reducible refine Below.drew ?_) | (with_reducible refine below_drewN ?_ _) | (with_reducible refine Below.setCell ?_ ?_ _) | (with_reducible refine Below.trans ?_ (Below.mono (by with_reducible assumption) ?_)) | omega | (simp only [ZA, ZS, ZD, ZN]; omega) | go_size)) q4'.out).mono ?_); rintro e w5 ⟨⟨vd, rfl, o5⟩, hb5⟩; have hb5z := Below.size hb5; (try simp only [ZA, ZS, ZD] at hb5z); have hb5c0 := fun o => below_at hb5 (w.heap.size) o (by first | omega | (simp only [ZA, ZS, ZD]; omega)); have hb5f0 := fun o => below_fr hb5 (w.heap.size) o (by first | omega | (simp only [ZA, ZS, ZD]; omega)); have hb5l0 : w.heap.size < (w5).heap.size := (by omega); have hb5c1 := fun o => below_at hb5 (bx) o (by first | omega | (simp only [ZA, ZS, ZD]; omega)); have hb5f1 := fun o => below_fr hb5 (bx) o (by first | omega | (simp only [ZA, ZS, ZD]; omega)); have hb5l1 : bx < (w5).heap.size := (by omega)); obtain ⟨s10, A10, n10, c10, B10, m10, d10, rfl⟩ := o5.form) | ((go_at_call 66; (with_reducible refine (KC.out _ _ _ _ _ ((o3.below hb4).below hb5) o5).mono ?_); rintro e w6 ⟨rfl, hb6⟩; have hb6z := Below.size hb6; (try simp only [ZA, ZS, ZD] at hb6z); have hb6c0 := fun o => below_at hb6 (w.heap.size) o (by first | omega | (simp only [ZA, ZS, ZD]; omega)); have hb6f0 := fun o => below_fr hb6 (w.heap.size) o (by first | omega | (simp only [ZA, ZS, ZD]; omega)); have hb6l0 : w.heap.size < (w6).heap.size := (by omega); have hb6c1 := fun o => below_at hb6 (bx) o (by first | omega | (simp only [ZA, ZS, ZD]; omega)); have hb6f1 := fun o => below_fr hb6 (bx) o (by first | omega | (simp only [ZA, ZS, ZD]; omega)); have hb6l1 : bx < (w6).heap.size := (by omega))) | fail)
              all_goals
                have hBz : Below wr.heap.size wr w6 := (by have z0 := Below.size hb2; have z1 := Below.size hb3; have z2 := Below.size hb4; have z3 := Below.size hb5; have z4 := Below.size hb6; (try simp only [ZA, ZS, ZD, ZN] at z0 z1 z2 z3 z4 ⊢; skip); repeat' (first | (with_reducible exact Below.refl _ _) | (with_reducible assumption) | (with_reducible refine Below.alloc ?_ ?_ _) | (with_reducible refine Below.drew ?_) | (with_reducible refine below_drewN ?_ _) | (with_reducible refine Below.setCell ?_ ?_ _) | (with_reducible refine Below.trans ?_ (Below.mono (by with_reducible assumption) ?_)) | omega | (simp only [ZA, ZS, ZD, ZN]; omega) | go_size))
                have HBz := Lib.hid (HB.out.trans (hBz.mono hzr))
                clear hBz hb2 hb3 hb4 hb5 hb6 o3 o5 q2' q4'
                go_wp2
                go_roundw
                case rel => exact ⟨j + 1, by omega, by go_num, HA2.out, HBz.out⟩
                case measure => simp [intOf]; omega
            · obtain ⟨z, hz'⟩ : ∃ z, z = sgnQ (X k * p - X j * q) := ⟨_, rfl⟩
              have ez : (z != 0) = true := by
                rw [hz', bne_iff_ne]
                exact fun e => he (by have := sgnQ_zero.1 e; grind)
              have KC : Hid (∀ W b b' v v', OwQ W b v (X k * p) → OwQ W b' v' (X j * q) → Calls Tryz.prog 66 #[v, v'] W fun e w' => e = .returned (.int .i64 z) ∧ Below W.heap.size W w') := by
                show ∀ _, _
                intro W b b' v v' h1 h2
                rw [hz']
                exact rcmpQ (h1.rq hS1) (h2.rq hS2) (by omega) (by omega)
              have HN2 := Lib.hid (HDNk.out he)
              clear he hz'
              go_wp2
              go_region_held3 (fun W => W.cell? ⟨w.heap.size, 0, none⟩ = some (.int .i64 (c.nd : Int)) ∧ W.cell? ⟨w.heap.size, 1, none⟩ = some (.int .i64 sr) ∧ W.cell? ⟨w.heap.size, 2, none⟩ = some (.slice AM c.nm cm) ∧ W.cell? ⟨w.heap.size, 3, none⟩ = some (.slice AD c.nd cd) ∧ W.cell? ⟨bx, ox + k * 3, none⟩ = some (.bool s2) ∧ W.cell? ⟨bx, ox + k * 3 + 1, none⟩ = some (.slice A2 n2 c2) ∧ W.cell? ⟨bx, ox + k * 3 + 2, none⟩ = some (.slice B2 m2 d2) ∧ W.cell? ⟨bx, ox + j * 3, none⟩ = some (.bool s3) ∧ W.cell? ⟨bx, ox + j * 3 + 1, none⟩ = some (.slice A3 n3 c3) ∧ W.cell? ⟨bx, ox + j * 3 + 2, none⟩ = some (.slice B3 m3 d3)) (go_keep)
                (first | ((go_at_call 68; (with_reducible refine (KR1.out _ (by (skip); repeat' (first | (with_reducible exact Below.refl _ _) | (with_reducible assumption) | (with_reducible refine Below.alloc ?_ ?_ _) | (with_reducible refine Below.drew ?_) | (with_reducible refine below_drewN ?_ _) | (with_reducible refine Below.setCell ?_ ?_ _) | (with_reducible refine Below.trans ?_ (Below.mono (by with_reducible assumption) ?_)) | omega | (simp only [ZA, ZS, ZD, ZN]; omega) | go_size))).mono ?_); rintro e w2 ⟨⟨va, rfl, qa⟩, hb2⟩; have hb2z := Below.size hb2; (try simp only [ZA, ZS, ZD] at hb2z); have hb2c0 := fun o => below_at hb2 (w.heap.size) o (by first | omega | (simp only [ZA, ZS, ZD]; omega)); have hb2f0 := fun o => below_fr hb2 (w.heap.size) o (by first | omega | (simp only [ZA, ZS, ZD]; omega)); have hb2l0 : w.heap.size < (w2).heap.size := (by omega); have hb2c1 := fun o => below_at hb2 (bx) o (by first | omega | (simp only [ZA, ZS, ZD]; omega)); have hb2f1 := fun o => below_fr hb2 (bx) o (by first | omega | (simp only [ZA, ZS, ZD]; omega)); have hb2l1 : bx < (w2).heap.size := (by omega)); (have q2' := Lib.hid qa); obtain ⟨ra, hra, -⟩ := qa; obtain ⟨s7, A7, n7, c7, B7, m7, d7, rfl⟩ := hra.form; clear hra) | ((go_at_call 67; (with_reducible refine (KM1.out _ _ (by have z0 := Below.size hb2; (try simp only [ZA, ZS, ZD, ZN] at z0 ⊢; skip); repeat' (first | (with_reducible exact Below.refl _ _) | (with_reducible assumption) | (with_reducible refine Below.alloc ?_ ?_ _) | (with_reducible refine Below.drew ?_) | (with_reducible refine below_drewN ?_ _) | (with_reducible refine Below.setCell ?_ ?_ _) | (with_reducible refine Below.trans ?_ (Below.mono (by with_reducible assumption) ?_)) | omega | (simp only [ZA, ZS, ZD, ZN]; omega) | go_size)) q2'.out).mono ?_); rintro e w3 ⟨⟨vb, rfl, o3⟩, hb3⟩; have hb3z := Below.size hb3; (try simp only [ZA, ZS, ZD] at hb3z); have hb3c0 := fun o => below_at hb3 (w.heap.size) o (by first | omega | (simp only [ZA, ZS, ZD]; omega)); have hb3f0 := fun o => below_fr hb3 (w.heap.size) o (by first | omega | (simp only [ZA, ZS, ZD]; omega)); have hb3l0 : w.heap.size < (w3).heap.size := (by omega); have hb3c1 := fun o => below_at hb3 (bx) o (by first | omega | (simp only [ZA, ZS, ZD]; omega)); have hb3f1 := fun o => below_fr hb3 (bx) o (by first | omega | (simp only [ZA, ZS, ZD]; omega)); have hb3l1 : bx < (w3).heap.size := (by omega)); obtain ⟨s8, A8, n8, c8, B8, m8, d8, rfl⟩ := o3.form) | ((go_at_call 68; (with_reducible refine (KR2.out _ (by have z0 := Below.size hb2; have z1 := Below.size hb3; (try simp only [ZA, ZS, ZD, ZN] at z0 z1 ⊢; skip); repeat' (first | (with_reducible exact Below.refl _ _) | (with_reducible assumption) | (with_reducible refine Below.alloc ?_ ?_ _) | (with_reducible refine Below.drew ?_) | (with_reducible refine below_drewN ?_ _) | (with_reducible refine Below.setCell ?_ ?_ _) | (with_reducible refine Below.trans ?_ (Below.mono (by with_reducible assumption) ?_)) | omega | (simp only [ZA, ZS, ZD, ZN]; omega) | go_size))).mono ?_); rintro e w4 ⟨⟨vc, rfl, qc⟩, hb4⟩; have hb4z := Below.size hb4; (try simp only [ZA, ZS, ZD] at hb4z); have hb4c0 := fun o => below_at hb4 (w.heap.size) o (by first | omega | (simp only [ZA, ZS, ZD]; omega)); have hb4f0 := fun o => below_fr hb4 (w.heap.size) o (by first | omega | (simp only [ZA, ZS, ZD]; omega)); have hb4l0 : w.heap.size < (w4).heap.size := (by omega); have hb4c1 := fun o => below_at hb4 (bx) o (by first | omega | (simp only [ZA, ZS, ZD]; omega)); have hb4f1 := fun o => below_fr hb4 (bx) o (by first | omega | (simp only [ZA, ZS, ZD]; omega)); have hb4l1 : bx < (w4).heap.size := (by omega)); (have q4' := Lib.hid qc); obtain ⟨rc, hrc, -⟩ := qc; obtain ⟨s9, A9, n9, c9, B9, m9, d9, rfl⟩ := hrc.form; clear hrc) | ((go_at_call 67; (with_reducible refine (KM2.out _ _ (by have z0 := Below.size hb2; have z1 := Below.size hb3; have z2 := Below.size hb4; (try simp only [ZA, ZS, ZD, ZN] at z0 z1 z2 ⊢; skip); repeat' (first | (with_reducible exact Below.refl _ _) | (with_reducible assumption) | (with_reducible refine Below.alloc ?_ ?_ _) | (with_reducible refine Below.drew ?_) | (with_reducible refine below_drewN ?_ _) | (with_reducible refine Below.setCell ?_ ?_ _) | (with_reducible refine Below.trans ?_ (Below.mono (by with_reducible assumption) ?_)) | omega | (simp only [ZA, ZS, ZD, ZN]; omega) | go_size)) q4'.out).mono ?_); rintro e w5 ⟨⟨vd, rfl, o5⟩, hb5⟩; have hb5z := Below.size hb5; (try simp only [ZA, ZS, ZD] at hb5z); have hb5c0 := fun o => below_at hb5 (w.heap.size) o (by first | omega | (simp only [ZA, ZS, ZD]; omega)); have hb5f0 := fun o => below_fr hb5 (w.heap.size) o (by first | omega | (simp only [ZA, ZS, ZD]; omega)); have hb5l0 : w.heap.size < (w5).heap.size := (by omega); have hb5c1 := fun o => below_at hb5 (bx) o (by first | omega | (simp only [ZA, ZS, ZD]; omega)); have hb5f1 := fun o => below_fr hb5 (bx) o (by first | omega | (simp only [ZA, ZS, ZD]; omega)); have hb5l1 : bx < (w5).heap.size := (by omega)); obtain ⟨s10, A10, n10, c10, B10, m10, d10, rfl⟩ := o5.form) | ((go_at_call 66; (with_reducible refine (KC.out _ _ _ _ _ ((o3.below hb4).below hb5) o5).mono ?_); rintro e w6 ⟨rfl, hb6⟩; have hb6z := Below.size hb6; (try simp only [ZA, ZS, ZD] at hb6z); have hb6c0 := fun o => below_at hb6 (w.heap.size) o (by first | omega | (simp only [ZA, ZS, ZD]; omega)); have hb6f0 := fun o => below_fr hb6 (w.heap.size) o (by first | omega | (simp only [ZA, ZS, ZD]; omega)); have hb6l0 : w.heap.size < (w6).heap.size := (by omega); have hb6c1 := fun o => below_at hb6 (bx) o (by first | omega | (simp only [ZA, ZS, ZD]; omega)); have hb6f1 := fun o => below_fr hb6 (bx) o (by first | omega | (simp only [ZA, ZS, ZD]; omega)); have hb6l1 : bx < (w6).heap.size := (by omega))) | fail)
              all_goals
                have hBz : Below wr.heap.size wr w6 := (by have z0 := Below.size hb2; have z1 := Below.size hb3; have z2 := Below.size hb4; have z3 := Below.size hb5; have z4 := Below.size hb6; (try simp only [ZA, ZS, ZD, ZN] at z0 z1 z2 z3 z4 ⊢; skip); repeat' (first | (with_reducible exact Below.refl _ _) | (with_reducible assumption) | (with_reducible refine Below.alloc ?_ ?_ _) | (with_reducible refine Below.drew ?_) | (with_reducible refine below_drewN ?_ _) | (with_reducible refine Below.setCell ?_ ?_ _) | (with_reducible refine Below.trans ?_ (Below.mono (by with_reducible assumption) ?_)) | omega | (simp only [ZA, ZS, ZD, ZN]; omega) | go_size))
                have HBz := Lib.hid (HBw.out.trans (hBz.mono HBw.out.size))
                clear hBz hb2 hb3 hb4 hb5 hb6 o3 o5 q2' q4'
                go_wp2
                go_ret2
                exact ⟨by rw [HN2.out]; rfl, HBz.out⟩
          · have hjk' : j = k := by omega
            subst hjk'
            have HB := Lib.hid hb
            clear hb hbw hbr
            go_wp2
            go_roundw
            case rel =>
              refine ⟨j + 1, by omega, by go_num, fun a ha b hb => ?_, HBo.out.trans (HB.out.mono hz)⟩
              by_cases e : a = j
              · subst e; exact HIn.out b hb
              · exact HAll.out a (by omega) b hb
            case measure => simp [intOf]; omega
      · have hkn : k = c.nd := by omega
        subst hkn
        have HT := Lib.hid (HDY.out HAll.out)
        have HBF := Lib.hid (HPB.out _ (HB1.out.trans (hb.mono (by omega))))
        clear hb
        go_wp2
        go_ret2
        exact ⟨by rw [HT.out]; rfl, HBF.out⟩
  · have HX : Hid (c.detV n R = false) := by show c.detV n R = _; unfold Chn.detV; rw [if_neg hB]
    rw [HX.out]
    obtain ⟨cc, hcc⟩ : ∃ cc, cc = c.codeB n R := ⟨_, rfl⟩
    rw [← hcc] at K1 hB ⊢
    have e5 : (cc != 0) = true := by simpa using hB
    have e6 : (cc == 0) = false := by simpa using hB
    clear h hB HX hcc
    go_enter Tryz.func34, Tryz.ntmps34
    (go_wp2_with fail; (with_reducible refine (K1.out _ (by (skip); repeat' (first | (with_reducible exact Below.refl _ _) | (with_reducible assumption) | (with_reducible refine Below.alloc ?_ ?_ _) | (with_reducible refine Below.drew ?_) | (with_reducible refine below_drewN ?_ _) | (with_reducible refine Below.setCell ?_ ?_ _) | (with_reducible refine Below.trans ?_ (Below.mono (by with_reducible assumption) ?_)) | omega | (simp only [ZA, ZS, ZD, ZN]; omega) | go_size))).mono ?_); rintro e w1 ⟨rfl, hb1⟩; have hb1z := Below.size hb1; (try simp only [ZA, ZS, ZD, ZN] at hb1z); have hb1c0 := fun o => below_at hb1 (w.heap.size) o (by first | omega | (simp only [ZA, ZS, ZD, ZN]; omega)); have hb1f0 := fun o => below_fr hb1 (w.heap.size) o (by first | omega | (simp only [ZA, ZS, ZD, ZN]; omega)))
    have hB1 := HPB.out w1 (by rw [← hW0z]; exact hb1)
    go_wp2
    go_ret2
    exact ⟨rfl, hB1⟩
end Go.Proofs.YtmebdlilbnadgaaGreatDoor
