/- Contracts of functions and lemmas, used by the proofs of the given statements. No condition beyond those that each lemma names. -/
import Derived.Test.YtglpknhcneggeaaGreatDoorTrR4
namespace Go.Proofs.YtglpknhcneggeaaGreatDoor
open Go.RowKit
set_option linter.unusedSimpArgs false
set_option linter.unusedVariables false
set_option maxRecDepth 20000
attribute [local irreducible] nv wp win plainB validR valR canR mvE chkM codeC exK maxF dsum
/-! ## reference: step -/
theorem OwR.kp0 {w w' : World} {b0 c n g : Nat} {R : Nat → Rw} (h : OwR w b0 (some ⟨g, 0, none⟩) c n R) (hg : w.grownBy w' (some g)) : Kp 0 w w' := by
  obtain ⟨_, cur, h2⟩ := h.block
  exact Kp.grown hg (Nat.zero_le _) h2 (by decide)
set_option maxHeartbeats 8000000 in
theorem rstep_any {w : World} {AM AD AV : Option Addr} {cm cd L b0 ca : Nat} {c : Chn} {rv9 : Value} {r : Rat} {v : Nat → Rat} (h : ChI w w.heap.size AM cm AD cd c) (ok : c.Ok) (hr : RdS w w.heap.size rv9 (canR r)) (hr0 : r ≠ 0) (hv : RowA w b0 AV c.nd (can v)) (hb0 : b0 ≤ w.heap.size) (hs : StS c r v L) :
    Calls Tryz.prog 57 #[cv c.st c.sr AM c.nm cm AD c.nd cd, rv9, .slice AV c.nd ca] w fun e w' => (∃ A' c', e = .returned (.slice A' c.nd c') ∧ OwF w' b0 w.heap.size A' c' c.nd (stepV (c.act false) c.f c.t c.q r c.nm v)) ∧ Below w.heap.size w w' := by
  obtain ⟨X, hX⟩ : ∃ X : Nat → Nat → Rat, X = fun k => stp (c.act false) c.f c.t v (shr c.f c.q r v) k := ⟨_, rfl⟩
  obtain ⟨S, hS⟩ : ∃ S : Nat → Rat, S = shr c.f c.q r v := ⟨_, rfl⟩
  have hX0 : X 0 = v := by rw [hX]; rfl
  have hXn : stepV (c.act false) c.f c.t c.q r c.nm v = X c.nm := by rw [hX]; rfl
  have hXy : ∀ k, k < c.nm → X (k + 1) = upd (upd (X k) (c.f k) (X k (c.f k) - S k)) (c.t k) (X k (c.t k) + S k) := fun k hk => by
    have := ok.mv k hk
    rw [hX, hS]
    exact stp_yes rfl (by unfold Chn.f Chn.t; omega)
  have hSz : ∀ k s, k ≤ c.nm → Sz L (X k s) := fun k s hk => by rw [hX]; exact hs.st false k s hk
  have hSs : ∀ k, k < c.nm → Sz L (S k) := fun k hk => by rw [hS]; exact hs.sh k hk
  have hSv : ∀ k, S k = v (c.f k) * valR (c.R k) / r := fun k => by rw [hS]; rfl
  have hSm : ∀ k, k < c.nm → Sz L (v (c.f k) * valR (c.R k)) := hs.m
  have hft : ∀ k, k < c.nm → c.F k = (c.f k : Int) ∧ c.T k = (c.t k : Int) ∧ c.f k < c.nd ∧ c.t k < c.nd ∧ c.f k ≠ c.t k := fun k hk => by
    have := ok.mv k hk
    unfold Chn.f Chn.t
    omega
  have hL1 := hs.L1
  have hL2 := hs.L2
  have hraw := hs.raw
  have hnm := hs.nm
  have hsv := hs.sv
  have hsr := hs.sr
  have hnd := ok.hi
  have hlo := ok.lo
  have hM := h.mv.1
  rw [hXn]
  obtain ⟨f, hf⟩ : ∃ f, f = c.f := ⟨_, rfl⟩
  obtain ⟨t, ht⟩ : ∃ t, t = c.t := ⟨_, rfl⟩
  rw [← hf, ← ht] at hft
  rw [← hf, ← ht] at hXy
  rw [← hf] at hSv hSm
  obtain ⟨s0, A0, n0, c0, B0, m0, d0, rfl⟩ := hr.form
  clear h ok hs hX hS hXn hf ht
  obtain ⟨st, sr, nm, F, T, R, nd, D⟩ := c
  simp only at *
  have HM := Lib.hid hM
  have HV := Lib.hid hv
  have HRt := Lib.hid hr
  have HX0 := Lib.hid hX0
  have HXY := Lib.hid hXy
  have HSZ := Lib.hid hSz
  have HSS := Lib.hid hSs
  have HSV := Lib.hid hSv
  have HSM := Lib.hid hSm
  have HFT := Lib.hid hft
  have HR := Lib.hid hraw
  have HSVV := Lib.hid hsv
  have HSR := Lib.hid hsr
  have HR0 := Lib.hid hr0
  clear hM hv hr hX0 hXy hSz hSs hSv hSm hft hraw hsv hsr hr0
  go_enter Tryz.func57, Tryz.ntmps57
  obtain ⟨aV, hAV⟩ : ∃ aV, AV = some aV := by
    obtain ⟨b, off, _, _, _, _, _, _, _, e, _⟩ := HV.out.at_ (show 0 < nd by omega)
    exact ⟨_, e⟩
  obtain ⟨V, hV, hRd⟩ := HV.out
  have HVV := Lib.hid hV
  have HRd := Lib.hid hRd
  have hbB : Below w.heap.size w ((w.alloc (.cells #[.int .i64 st, .int .i64 sr, .slice AM nm cm, .slice AD nd cd] 25)).alloc (.cells #[.bool s0, .slice A0 n0 c0, .slice B0 m0 d0] 28)) := ((Below.refl _ _).alloc (Nat.le_refl _) _).alloc (by simp) _
  clear hV hRd
  subst hAV
  have HOwn : Hid (∀ W : World, W.heap.size = w.heap.size + 1 + 1 → (W.alloc (.cells #[] 28)).ownsRow (w.heap.size + 1 + 1) 28 3 (.slice (some ⟨w.heap.size + 1 + 1, 0, none⟩) 0 0) 0 []) := fun W hW => by rw [← hW]; exact World.ownsRow_lit W #[] 0 (Nat.le_refl _) (by unfold maxLen; omega) (by simp)
  go_wp2_with (at_builtin; refine wpList_app rfl (.tmp 12) (.tmp 13) 32 rfl (w.heap.size + 1 + 1) 28 _ 3 56 Tryz.underlying32 ratInfo rfl (by decide) (some ⟨w.heap.size + 1 + 1, 0, none⟩) 0 0 [] (by simp [Act.eval]) (HOwn.out _ (by simp)) w.heap.size (some aV) nd ca (cellsV nd V) (by simp [Act.eval]) ((HRd.out.below hbB).alloc (by simp; omega) _) (cellsV_one fun k hk => (HVV.out k hk).isR) (by unfold maxLen; omega) (by omega) (by simp) ?_; intro A9 c9 w1 hown hbel hgrow hfr; have y0 : w1.cell? ⟨w.heap.size, 2, none⟩ = some (.slice AM nm cm) := (hbel.cell (p := ⟨w.heap.size, 2, none⟩) (by show w.heap.size < _; omega)).trans (Lib.cell?_alloc_some _ (by simp)))
  simp only [Nat.zero_add, List.nil_append] at hown hfr
  have hbwB : Below w.heap.size w w1 := hbB.trans (((Below.refl _ _).alloc (by simp; omega) _).trans (hbel.mono (by omega)))
  have ow1 : OwR w1 b0 A9 c9 nd (can v) := ⟨V, fun k hk => (HVV.out k hk).kp (Kp.of_below hbwB), own_base hown (by omega)⟩
  have far1 : ∀ q, (Value.slice A9 nd c9).ownBlock = some q → w.heap.size + 1 + 1 ≤ q := fun q hq => (World.ownsRow.lt hown q hq).1
  clear hown hgrow hfr
  obtain ⟨g, rfl⟩ := ow1.head (by omega)
  have hg1 : w.heap.size + 2 ≤ g := by have := far1 g rfl; omega
  have hgz := ow1.lt
  have own1 := ow1
  have hbl9 := hbel
  clear far1
  have hw1 : w.heap.size + 1 < w1.heap.size := by omega
  have hbw1 : Below w.heap.size w w1 := hbwB
  have tb : ∀ {b o : Nat} {v : Value}, b < w.heap.size + 1 + 1 → (((w.alloc (.cells #[.int .i64 st, .int .i64 sr, .slice AM nm cm, .slice AD nd cd] 25)).alloc (.cells #[.bool s0, .slice A0 n0 c0, .slice B0 m0 d0] 28)).cell? ⟨b, o, none⟩ = some v) → w1.cell? ⟨b, o, none⟩ = some v := fun hb h => (hbel.cell (p := ⟨_, _, none⟩) hb).trans (Lib.cell?_alloc_some _ h)
  have y2 : w1.cell? ⟨w.heap.size + 1, 0, none⟩ = some (.bool s0) := tb (by omega) (by simp)
  have y3 : w1.cell? ⟨w.heap.size + 1, 1, none⟩ = some (.slice A0 n0 c0) := tb (by omega) (by simp)
  have y4 : w1.cell? ⟨w.heap.size + 1, 2, none⟩ = some (.slice B0 m0 d0) := tb (by omega) (by simp)
  clear ow1 hbwB hbel tb hbl9
  go_wp2
  go_loopw [18] (fun i wr => ∃ k : Nat, k ≤ nm ∧ i = .int .i64 (k : Int) ∧ OwR wr b0 (some ⟨g, 0, none⟩) c9 nd (can (X k)) ∧ w1.grownBy wr (some g)) (fun i _ => nm - (intOf i).toNat)
  case atStart => exact ⟨0, Nat.zero_le _, rfl, by rw [HX0.out]; exact own1, World.grownBy.refl w1 _⟩
  case round =>
    obtain ⟨k, hk, rfl, own, hgr⟩ := hrel
    have hz := hgr.size
    have hfz := own.frozen
    have hbw : Below w.heap.size w wr := hbw1.trans (below_of_row hgr (fun q hq => by have h2 : g = q := (by injection hq); omega) (by omega))
    by_cases hlt : k < nm
    · obtain ⟨b, off, s, A1, n1, c1, B1, m1, d1, rfl, hbb, f0, f1, f2, f3, f4, r0⟩ := HM.out.at_ hlt
      obtain ⟨hFk, hTk, hFl, hTl, hFT⟩ := HFT.out k hlt
      rw [hFk] at f0
      rw [hTk] at f1
      have hSv := HSV.out k
      have hSm := HSM.out k hlt
      obtain ⟨u, hu⟩ : ∃ u, u = f k := ⟨_, rfl⟩
      obtain ⟨y, hy⟩ : ∃ y, y = t k := ⟨_, rfl⟩
      have hXY := HXY.out k hlt
      rw [← hu] at f0 hFl hFT hSv hSm hXY
      rw [← hy] at f1 hTl hFT hXY
      obtain ⟨z1, z2⟩ := HR.out k hlt
      have r1 := (r0.kp (Kp.of_below hbw)).rdq z1 z2
      have tc : ∀ {b o : Nat} {v : Value}, w.cell? ⟨b, o, none⟩ = some v → wr.cell? ⟨b, o, none⟩ = some v := fun h => (hbw.cell (lt_of_cell h)).trans h
      have x0 := tc f0
      have x1 := tc f1
      have x2 := tc f2
      have x3 := tc f3
      have x4 := tc f4
      have y0' : wr.cell? ⟨w.heap.size, 2, none⟩ = some (.slice (some ⟨b, off, none⟩) nm cm) := (grown_at hgr 2 (by omega) (by omega)).trans y0
      have y2' := (grown_at hgr 0 (by omega) (by omega)).trans y2
      have y3' := (grown_at hgr 1 (by omega) (by omega)).trans y3
      have y4' := (grown_at hgr 2 (by omega) (by omega)).trans y4
      have hk0 : (0 : Int) ≤ (k : Int) := by omega
      have hk1 : (k : Int) < (nm : Int) := by omega
      have hu1 : (u : Int) < (nd : Int) := by omega
      have hy1 : (y : Int) < (nd : Int) := by omega
      have hwl : w.heap.size + 1 < wr.heap.size := by omega
      have HGR := Lib.hid hgr
      have HB := Lib.hid hbw
      clear hFk hTk y0 y2 y3 y4 f0 f1 f2 f3 f4
      (have olc := fun o i => below_at ((Below.refl wr.heap.size wr).alloc (Nat.le_refl _) o) (w.heap.size) i (by omega)); (have olf := fun o i => below_fr ((Below.refl wr.heap.size wr).alloc (Nat.le_refl _) o) (w.heap.size) i (by omega))
      (have omc := fun o i => below_at ((Below.refl wr.heap.size wr).alloc (Nat.le_refl _) o) (w.heap.size + 1) i (by omega)); (have omf := fun o i => below_fr ((Below.refl wr.heap.size wr).alloc (Nat.le_refl _) o) (w.heap.size + 1) i (by omega))
      · have hX1 := hXY
        obtain ⟨bv, ov, s2, A2, n2, c2, B2, m2, d2, eav, hbv, e0, e1, e2, r2⟩ := HV.out.at_ hFl
        injection eav with eav
        subst eav
        have x6 := tc e0
        have x7 := tc e1
        have x8 := tc e2
        have q2 := (r2.kp (Kp.of_below hbw)).canQ (HSVV.out u hFl)
        have qr := (HRt.out.kp (Kp.of_below hbw)).canQ HSR.out
        obtain ⟨s5, A5, n5, c5, B5, m5, d5, g0, g1, g2, r5⟩ := own.at_ hFl
        obtain ⟨s6, A6, n6, c6, B6, m6, d6, g3, g4, g5, r6⟩ := own.at_ hTl
        have q5 := r5.canQ (HSZ.out k u hk)
        have q6 := r6.canQ (HSZ.out k y hk)
        have hS9 := HSS.out k hlt
        have K1 := Lib.hid (fun W (hb : Below wr.heap.size wr W) => rmulQ (q2.below hb) (r1.below hb) hL1 (by omega))
        have K2 := Lib.hid (fun W base v1 (hb : Below wr.heap.size wr W) (hv : OwQ W base v1 (v u * valR (R k))) => (by
          have := rdivQ (hv.rq hSm) (qr.below hb) hL1 (by omega) HR0.out
          rw [← hSv] at this
          exact this : Calls Tryz.prog 96 #[v1, rv s0 A0 n0 c0 B0 m0 d0] W fun e w' => RetDv W.heap.size (S k) (.int .i64 0) e w' ∧ Below W.heap.size W w'))
        (have ogc := fun o i => below_at ((Below.refl wr.heap.size wr).alloc (Nat.le_refl _) o) (g) i (by omega)); (have ogf := fun o i => below_fr ((Below.refl wr.heap.size wr).alloc (Nat.le_refl _) o) (g) i (by omega))
        (have ovvc := fun o i => below_at ((Below.refl wr.heap.size wr).alloc (Nat.le_refl _) o) (bv) i (by omega)); (have ovvf := fun o i => below_fr ((Below.refl wr.heap.size wr).alloc (Nat.le_refl _) o) (bv) i (by omega))
        have hbv9 : bv < wr.heap.size := by have := hbw.size; omega
        have hg9 : g < wr.heap.size := by omega
        have ne8 : ¬ (wr.heap.size = w.heap.size) := by omega
        have ne9 : ¬ (w.heap.size = wr.heap.size) := by omega
        have HO := Lib.hid own
        have HX1 := Lib.hid hX1
        clear own hgr hbw hX1 hXY hSv hSm hu hy r5 r6 r2 q2 qr r1 r0 tc e0 e1 e2
        go_upto_region 5 with fail
        go_cut [10, 11] from 22 to 35 (fun p e wx => e = .int .i64 0 ∧ Res13 (wr.alloc (.cells #[.int .i64 (u : Int), .int .i64 (y : Int), .bool s, .slice A1 n1 c1, .slice B1 m1 d1] 47)) (wr.heap.size + 1) (S k) p wx)
        case first =>
          go_region_held3 (fun W => W.cell? ⟨wr.heap.size, 0, none⟩ = some (.int .i64 (u : Int)) ∧ W.cell? ⟨wr.heap.size, 2, none⟩ = some (.bool s) ∧ W.cell? ⟨wr.heap.size, 3, none⟩ = some (.slice A1 n1 c1) ∧ W.cell? ⟨wr.heap.size, 4, none⟩ = some (.slice B1 m1 d1) ∧ W.cell? ⟨bv, ov + u * 3, none⟩ = some (.bool s2) ∧ W.cell? ⟨bv, ov + u * 3 + 1, none⟩ = some (.slice A2 n2 c2) ∧ W.cell? ⟨bv, ov + u * 3 + 2, none⟩ = some (.slice B2 m2 d2) ∧ W.cell? ⟨w.heap.size + 1, 0, none⟩ = some (.bool s0) ∧ W.cell? ⟨w.heap.size + 1, 1, none⟩ = some (.slice A0 n0 c0) ∧ W.cell? ⟨w.heap.size + 1, 2, none⟩ = some (.slice B0 m0 d0)) (go_keep)
            (first | ((go_at_call 84; (with_reducible refine (K1.out _ (by (skip); repeat' (first | (with_reducible exact Below.refl _ _) | (with_reducible assumption) | (with_reducible refine Below.alloc ?_ ?_ _) | (with_reducible refine Below.drew ?_) | (with_reducible refine below_drewN ?_ _) | (with_reducible refine Below.setCell ?_ ?_ _) | (with_reducible refine Below.trans ?_ (Below.mono (by with_reducible assumption) ?_)) | omega | (simp only [World.size_alloc, World.size_setCell, World.size_drew, size_drewN']; omega) | go_size))).mono ?_); rintro e w3 ⟨⟨v3, rfl, own3⟩, hb3⟩; have hb3z := Below.size hb3; (try simp only [World.size_alloc, World.size_setCell, World.size_drew] at hb3z); have hb3c0 := fun o => below_at hb3 (g) o (by first | omega | (simp only [World.size_alloc, World.size_setCell, World.size_drew]; omega)); have hb3f0 := fun o => below_fr hb3 (g) o (by first | omega | (simp only [World.size_alloc, World.size_setCell, World.size_drew]; omega)); have hb3l0 : g < (w3).heap.size := (by omega); have hb3c1 := fun o => below_at hb3 (wr.heap.size) o (by first | omega | (simp only [World.size_alloc, World.size_setCell, World.size_drew]; omega)); have hb3f1 := fun o => below_fr hb3 (wr.heap.size) o (by first | omega | (simp only [World.size_alloc, World.size_setCell, World.size_drew]; omega)); have hb3l1 : wr.heap.size < (w3).heap.size := (by omega); have hb3c2 := fun o => below_at hb3 (w.heap.size + 1) o (by first | omega | (simp only [World.size_alloc, World.size_setCell, World.size_drew]; omega)); have hb3f2 := fun o => below_fr hb3 (w.heap.size + 1) o (by first | omega | (simp only [World.size_alloc, World.size_setCell, World.size_drew]; omega)); have hb3l2 : w.heap.size + 1 < (w3).heap.size := (by omega); have hb3c3 := fun o => below_at hb3 (bv) o (by first | omega | (simp only [World.size_alloc, World.size_setCell, World.size_drew]; omega)); have hb3f3 := fun o => below_fr hb3 (bv) o (by first | omega | (simp only [World.size_alloc, World.size_setCell, World.size_drew]; omega)); have hb3l3 : bv < (w3).heap.size := (by omega); have hb3c4 := fun o => below_at hb3 (wr.heap.size + 1) o (by first | omega | (simp only [World.size_alloc, World.size_setCell, World.size_drew]; omega)); have hb3f4 := fun o => below_fr hb3 (wr.heap.size + 1) o (by first | omega | (simp only [World.size_alloc, World.size_setCell, World.size_drew]; omega)); have hb3l4 : wr.heap.size + 1 < (w3).heap.size := (by omega)); obtain ⟨s3, A3, n3, c3', B3, m3, d3, rfl⟩ := own3.form; have ne1 : ¬ (wr.heap.size + 1 = wr.heap.size) := (by omega); have ne2 : ¬ (wr.heap.size + 1 = bv) := (by omega); have ne3 : ¬ (wr.heap.size + 1 = w.heap.size + 1) := (by omega); have ne4 : ¬ (wr.heap.size + 1 = g) := (by omega); have ne5 : ¬ (wr.heap.size = wr.heap.size + 1) := (by omega); have ne6 : ¬ (g = wr.heap.size + 1) := (by omega)) | ((go_at_call 84; (with_reducible refine (K1.out _ (by (skip); repeat' (first | (with_reducible exact Below.refl _ _) | (with_reducible assumption) | (with_reducible refine Below.alloc ?_ ?_ _) | (with_reducible refine Below.drew ?_) | (with_reducible refine below_drewN ?_ _) | (with_reducible refine Below.setCell ?_ ?_ _) | (with_reducible refine Below.trans ?_ (Below.mono (by with_reducible assumption) ?_)) | omega | (simp only [World.size_alloc, World.size_setCell, World.size_drew, size_drewN']; omega) | go_size))).mono ?_); rintro e w3 ⟨⟨v3, rfl, own3⟩, hb3⟩; have hb3z := Below.size hb3; (try simp only [World.size_alloc, World.size_setCell, World.size_drew] at hb3z); have hb3c0 := fun o => below_at hb3 (g) o (by first | omega | (simp only [World.size_alloc, World.size_setCell, World.size_drew]; omega)); have hb3f0 := fun o => below_fr hb3 (g) o (by first | omega | (simp only [World.size_alloc, World.size_setCell, World.size_drew]; omega)); have hb3l0 : g < (w3).heap.size := (by omega); have hb3c1 := fun o => below_at hb3 (wr.heap.size) o (by first | omega | (simp only [World.size_alloc, World.size_setCell, World.size_drew]; omega)); have hb3f1 := fun o => below_fr hb3 (wr.heap.size) o (by first | omega | (simp only [World.size_alloc, World.size_setCell, World.size_drew]; omega)); have hb3l1 : wr.heap.size < (w3).heap.size := (by omega); have hb3c2 := fun o => below_at hb3 (w.heap.size + 1) o (by first | omega | (simp only [World.size_alloc, World.size_setCell, World.size_drew]; omega)); have hb3f2 := fun o => below_fr hb3 (w.heap.size + 1) o (by first | omega | (simp only [World.size_alloc, World.size_setCell, World.size_drew]; omega)); have hb3l2 : w.heap.size + 1 < (w3).heap.size := (by omega); have hb3c3 := fun o => below_at hb3 (bv) o (by first | omega | (simp only [World.size_alloc, World.size_setCell, World.size_drew]; omega)); have hb3f3 := fun o => below_fr hb3 (bv) o (by first | omega | (simp only [World.size_alloc, World.size_setCell, World.size_drew]; omega)); have hb3l3 : bv < (w3).heap.size := (by omega)); obtain ⟨s3, A3, n3, c3', B3, m3, d3, rfl⟩ := own3.form) | ((go_at_call 96; (with_reducible refine (K2.out _ _ _ (by have z0 := Below.size hb3; (try simp only [World.size_alloc, World.size_setCell, World.size_drew, size_drewN'] at z0 ⊢; skip); repeat' (first | (with_reducible exact Below.refl _ _) | (with_reducible assumption) | (with_reducible refine Below.alloc ?_ ?_ _) | (with_reducible refine Below.drew ?_) | (with_reducible refine below_drewN ?_ _) | (with_reducible refine Below.setCell ?_ ?_ _) | (with_reducible refine Below.trans ?_ (Below.mono (by with_reducible assumption) ?_)) | omega | (simp only [World.size_alloc, World.size_setCell, World.size_drew, size_drewN']; omega) | go_size)) own3).mono ?_); rintro e w4 ⟨⟨v4, rfl, own4⟩, hb4⟩; have hb4z := Below.size hb4; (try simp only [World.size_alloc, World.size_setCell, World.size_drew] at hb4z); have hb4c0 := fun o => below_at hb4 (g) o (by first | omega | (simp only [World.size_alloc, World.size_setCell, World.size_drew]; omega)); have hb4f0 := fun o => below_fr hb4 (g) o (by first | omega | (simp only [World.size_alloc, World.size_setCell, World.size_drew]; omega)); have hb4l0 : g < (w4).heap.size := (by omega); have hb4c1 := fun o => below_at hb4 (wr.heap.size) o (by first | omega | (simp only [World.size_alloc, World.size_setCell, World.size_drew]; omega)); have hb4f1 := fun o => below_fr hb4 (wr.heap.size) o (by first | omega | (simp only [World.size_alloc, World.size_setCell, World.size_drew]; omega)); have hb4l1 : wr.heap.size < (w4).heap.size := (by omega); have hb4c2 := fun o => below_at hb4 (w.heap.size + 1) o (by first | omega | (simp only [World.size_alloc, World.size_setCell, World.size_drew]; omega)); have hb4f2 := fun o => below_fr hb4 (w.heap.size + 1) o (by first | omega | (simp only [World.size_alloc, World.size_setCell, World.size_drew]; omega)); have hb4l2 : w.heap.size + 1 < (w4).heap.size := (by omega); have hb4c3 := fun o => below_at hb4 (bv) o (by first | omega | (simp only [World.size_alloc, World.size_setCell, World.size_drew]; omega)); have hb4f3 := fun o => below_fr hb4 (bv) o (by first | omega | (simp only [World.size_alloc, World.size_setCell, World.size_drew]; omega)); have hb4l3 : bv < (w4).heap.size := (by omega); have hb4c4 := fun o => below_at hb4 (wr.heap.size + 1) o (by first | omega | (simp only [World.size_alloc, World.size_setCell, World.size_drew]; omega)); have hb4f4 := fun o => below_fr hb4 (wr.heap.size + 1) o (by first | omega | (simp only [World.size_alloc, World.size_setCell, World.size_drew]; omega)); have hb4l4 : wr.heap.size + 1 < (w4).heap.size := (by omega)); obtain ⟨s4, A4, n4, c4, B4, m4, d4, rfl⟩ := own4.form) | ((go_at_call 96; (with_reducible refine (K2.out _ _ _ (by have z0 := Below.size hb3; (try simp only [World.size_alloc, World.size_setCell, World.size_drew, size_drewN'] at z0 ⊢; skip); repeat' (first | (with_reducible exact Below.refl _ _) | (with_reducible assumption) | (with_reducible refine Below.alloc ?_ ?_ _) | (with_reducible refine Below.drew ?_) | (with_reducible refine below_drewN ?_ _) | (with_reducible refine Below.setCell ?_ ?_ _) | (with_reducible refine Below.trans ?_ (Below.mono (by with_reducible assumption) ?_)) | omega | (simp only [World.size_alloc, World.size_setCell, World.size_drew, size_drewN']; omega) | go_size)) own3).mono ?_); rintro e w4 ⟨⟨v4, rfl, own4⟩, hb4⟩; have hb4z := Below.size hb4; (try simp only [World.size_alloc, World.size_setCell, World.size_drew] at hb4z); have hb4c0 := fun o => below_at hb4 (g) o (by first | omega | (simp only [World.size_alloc, World.size_setCell, World.size_drew]; omega)); have hb4f0 := fun o => below_fr hb4 (g) o (by first | omega | (simp only [World.size_alloc, World.size_setCell, World.size_drew]; omega)); have hb4l0 : g < (w4).heap.size := (by omega); have hb4c1 := fun o => below_at hb4 (wr.heap.size) o (by first | omega | (simp only [World.size_alloc, World.size_setCell, World.size_drew]; omega)); have hb4f1 := fun o => below_fr hb4 (wr.heap.size) o (by first | omega | (simp only [World.size_alloc, World.size_setCell, World.size_drew]; omega)); have hb4l1 : wr.heap.size < (w4).heap.size := (by omega); have hb4c2 := fun o => below_at hb4 (w.heap.size + 1) o (by first | omega | (simp only [World.size_alloc, World.size_setCell, World.size_drew]; omega)); have hb4f2 := fun o => below_fr hb4 (w.heap.size + 1) o (by first | omega | (simp only [World.size_alloc, World.size_setCell, World.size_drew]; omega)); have hb4l2 : w.heap.size + 1 < (w4).heap.size := (by omega); have hb4c3 := fun o => below_at hb4 (bv) o (by first | omega | (simp only [World.size_alloc, World.size_setCell, World.size_drew]; omega)); have hb4f3 := fun o => below_fr hb4 (bv) o (by first | omega | (simp only [World.size_alloc, World.size_setCell, World.size_drew]; omega)); have hb4l3 : bv < (w4).heap.size := (by omega)); obtain ⟨s4, A4, n4, c4, B4, m4, d4, rfl⟩ := own4.form) | ((go_at_call 96; (with_reducible refine (K2.out _ _ _ (by have z0 := Below.size hb3; (try simp only [World.size_alloc, World.size_setCell, World.size_drew, size_drewN'] at z0 ⊢; skip); repeat' (first | (with_reducible exact Below.refl _ _) | (with_reducible assumption) | (with_reducible refine Below.alloc ?_ ?_ _) | (with_reducible refine Below.drew ?_) | (with_reducible refine below_drewN ?_ _) | (with_reducible refine Below.setCell ?_ ?_ _) | (with_reducible refine Below.trans ?_ (Below.mono (by with_reducible assumption) ?_)) | omega | (simp only [World.size_alloc, World.size_setCell, World.size_drew, size_drewN']; omega) | go_size)) (own3.alloc _)).mono ?_); rintro e w4 ⟨⟨v4, rfl, own4⟩, hb4⟩; have hb4z := Below.size hb4; (try simp only [World.size_alloc, World.size_setCell, World.size_drew] at hb4z); have hb4c0 := fun o => below_at hb4 (g) o (by first | omega | (simp only [World.size_alloc, World.size_setCell, World.size_drew]; omega)); have hb4f0 := fun o => below_fr hb4 (g) o (by first | omega | (simp only [World.size_alloc, World.size_setCell, World.size_drew]; omega)); have hb4l0 : g < (w4).heap.size := (by omega); have hb4c1 := fun o => below_at hb4 (wr.heap.size) o (by first | omega | (simp only [World.size_alloc, World.size_setCell, World.size_drew]; omega)); have hb4f1 := fun o => below_fr hb4 (wr.heap.size) o (by first | omega | (simp only [World.size_alloc, World.size_setCell, World.size_drew]; omega)); have hb4l1 : wr.heap.size < (w4).heap.size := (by omega); have hb4c2 := fun o => below_at hb4 (w.heap.size + 1) o (by first | omega | (simp only [World.size_alloc, World.size_setCell, World.size_drew]; omega)); have hb4f2 := fun o => below_fr hb4 (w.heap.size + 1) o (by first | omega | (simp only [World.size_alloc, World.size_setCell, World.size_drew]; omega)); have hb4l2 : w.heap.size + 1 < (w4).heap.size := (by omega); have hb4c3 := fun o => below_at hb4 (bv) o (by first | omega | (simp only [World.size_alloc, World.size_setCell, World.size_drew]; omega)); have hb4f3 := fun o => below_fr hb4 (bv) o (by first | omega | (simp only [World.size_alloc, World.size_setCell, World.size_drew]; omega)); have hb4l3 : bv < (w4).heap.size := (by omega); have hb4c4 := fun o => below_at hb4 (w3.heap.size) o (by first | omega | (simp only [World.size_alloc, World.size_setCell, World.size_drew]; omega)); have hb4f4 := fun o => below_fr hb4 (w3.heap.size) o (by first | omega | (simp only [World.size_alloc, World.size_setCell, World.size_drew]; omega)); have hb4l4 : w3.heap.size < (w4).heap.size := (by omega)); obtain ⟨s4, A4, n4, c4, B4, m4, d4, rfl⟩ := own4.form; have ne1 : ¬ (w3.heap.size = wr.heap.size) := (by omega); have ne2 : ¬ (w3.heap.size = bv) := (by omega); have ne3 : ¬ (w3.heap.size = w.heap.size + 1) := (by omega); have ne4 : ¬ (w3.heap.size = g) := (by omega); have ne5 : ¬ (wr.heap.size = w3.heap.size) := (by omega); have ne6 : ¬ (g = w3.heap.size) := (by omega)) | fail)
          · go_wp2
            go_meet
            exact ⟨rfl, res13_new own4 (by have z0 := Below.size hb3; have z1 := Below.size hb4; (try simp only [World.size_alloc, World.size_setCell, World.size_drew, size_drewN'] at z0 z1 ⊢; skip); repeat' (first | (with_reducible exact Below.refl _ _) | (with_reducible assumption) | (with_reducible refine Below.alloc ?_ ?_ _) | (with_reducible refine Below.drew ?_) | (with_reducible refine below_drewN ?_ _) | (with_reducible refine Below.setCell ?_ ?_ _) | (with_reducible refine Below.trans ?_ (Below.mono (by with_reducible assumption) ?_)) | omega | (simp only [World.size_alloc, World.size_setCell, World.size_drew, size_drewN']; omega) | go_size)) (by omega)⟩
          · go_wp2
            go_meet
            exact ⟨rfl, res13_set (a' := .bool false) (b' := .slice none 0 0) (d' := .slice none 0 0) own4 (by have z0 := Below.size hb3; have z1 := Below.size hb4; (try simp only [World.size_alloc, World.size_setCell, World.size_drew, size_drewN'] at z0 z1 ⊢; skip); repeat' (first | (with_reducible exact Below.refl _ _) | (with_reducible assumption) | (with_reducible refine Below.alloc ?_ ?_ _) | (with_reducible refine Below.drew ?_) | (with_reducible refine below_drewN ?_ _) | (with_reducible refine Below.setCell ?_ ?_ _) | (with_reducible refine Below.trans ?_ (Below.mono (by with_reducible assumption) ?_)) | omega | (simp only [World.size_alloc, World.size_setCell, World.size_drew, size_drewN']; omega) | go_size)) (by omega) (by omega) ((RatB.new w3 _).below hb4 (by simp)) (by rw [hb4c4]; simp) (by rw [hb4c4]; simp) (by rw [hb4c4]; simp)⟩
          · go_wp2
            go_meet
            have hB3 : RatB w3 (wr.heap.size + 1) := by
              have h := RatB.new (wr.alloc (.cells #[.int .i64 (u : Int), .int .i64 (y : Int), .bool s, .slice A1 n1 c1, .slice B1 m1 d1] 47)) #[.bool false, .slice none 0 0, .slice none 0 0]
              rw [World.size_alloc] at h
              exact RatB.below (w := ((wr.alloc (.cells #[.int .i64 (u : Int), .int .i64 (y : Int), .bool s, .slice A1 n1 c1, .slice B1 m1 d1] 47)).alloc (.cells #[.bool false, .slice none 0 0, .slice none 0 0] 28)).drew) h hb3 (by simp)
            exact ⟨rfl, res13_set (a' := .bool false) (b' := .slice none 0 0) (d' := .slice none 0 0) own4 (by have z0 := Below.size hb3; have z1 := Below.size hb4; (try simp only [World.size_alloc, World.size_setCell, World.size_drew, size_drewN'] at z0 z1 ⊢; skip); repeat' (first | (with_reducible exact Below.refl _ _) | (with_reducible assumption) | (with_reducible refine Below.alloc ?_ ?_ _) | (with_reducible refine Below.drew ?_) | (with_reducible refine below_drewN ?_ _) | (with_reducible refine Below.setCell ?_ ?_ _) | (with_reducible refine Below.trans ?_ (Below.mono (by with_reducible assumption) ?_)) | omega | (simp only [World.size_alloc, World.size_setCell, World.size_drew, size_drewN']; omega) | go_size)) (by omega) (by omega) (hB3.below hb4 (by omega)) (by rw [hb4c4, hb3c4]; simp) (by rw [hb4c4, hb3c4]; simp) (by rw [hb4c4, hb3c4]; simp)⟩
        case rest =>
          obtain ⟨rfl, o13, s4, A4, n4, c4, B4, m4, d4, rfl, ho1, ho2, k0, k1, k2, kS, hbc⟩ := hcut
          have hbz := hbc.size
          simp only [World.size_alloc] at hbz
          have hbr : Below wr.heap.size wr wc := ((Below.refl _ _).alloc (Nat.le_refl _) _).trans (hbc.mono (by omega))
          have K3 := Lib.hid (fun W (hb : Below wc.heap.size wc W) => rsubQ (q5.below (hbr.trans (hb.mono (by omega)))) ((kS.kp (Kp.of_below hb)).canQ hS9) hL1 (by omega))
          have e0 := (hbc.cell (p := ⟨wr.heap.size, 0, none⟩) (by show wr.heap.size < _; omega)).trans (by simp : (wr.alloc (.cells #[.int .i64 (u : Int), .int .i64 (y : Int), .bool s, .slice A1 n1 c1, .slice B1 m1 d1] 47)).cell? ⟨wr.heap.size, 0, none⟩ = some (.int .i64 (u : Int)))
          have e1 := (hbc.cell (p := ⟨wr.heap.size, 1, none⟩) (by show wr.heap.size < _; omega)).trans (by simp : (wr.alloc (.cells #[.int .i64 (u : Int), .int .i64 (y : Int), .bool s, .slice A1 n1 c1, .slice B1 m1 d1] 47)).cell? ⟨wr.heap.size, 1, none⟩ = some (.int .i64 (y : Int)))
          have e2 := (hbr.cell (p := ⟨g, u * 3, none⟩) hg9).trans g0
          have e3 := (hbr.cell (p := ⟨g, u * 3 + 1, none⟩) hg9).trans g1
          have e4 := (hbr.cell (p := ⟨g, u * 3 + 2, none⟩) hg9).trans g2
          have e8 : ∀ i, wc.frozen? ⟨g, i, none⟩ = false := fun i => (hbr.frozen (p := ⟨g, i, none⟩) hg9).trans (hfz i)
          have ne1 : ¬ (g = o13) := by omega
          have ne2 : ¬ (o13 = g) := by omega
          have ne3 : ¬ (g = wr.heap.size) := by omega
          have ne4 : ¬ (wr.heap.size = g) := by omega
          have HOC := Lib.hid (HO.out.below hbr)
          have HBC := Lib.hid hbr
          have HKS := Lib.hid kS
          clear x0 x1 x2 x3 x4 x6 x7 x8 y0' y2' y3' y4' g0 g1 g2 g3 g4 g5 hfz olc olf omc omf ogc ogf ovvc ovvf q5 q6 kS hbc hbr
          go_wp2
          rw [ld_later 28 (.tmp 41)]
          go_region_held3 (fun W => W.cell? ⟨wr.heap.size, 0, none⟩ = some (.int .i64 (u : Int)) ∧ W.cell? ⟨o13, 0, none⟩ = some (.bool s4) ∧ W.cell? ⟨o13, 1, none⟩ = some (.slice A4 n4 c4) ∧ W.cell? ⟨o13, 2, none⟩ = some (.slice B4 m4 d4)) (go_keep)
            (first | ((go_at_call 75; (with_reducible refine (K3.out _ (by (skip); repeat' (first | (with_reducible exact Below.refl _ _) | (with_reducible assumption) | (with_reducible refine Below.alloc ?_ ?_ _) | (with_reducible refine Below.drew ?_) | (with_reducible refine below_drewN ?_ _) | (with_reducible refine Below.setCell ?_ ?_ _) | (with_reducible refine Below.trans ?_ (Below.mono (by with_reducible assumption) ?_)) | omega | (simp only [World.size_alloc, World.size_setCell, World.size_drew, size_drewN']; omega) | go_size))).mono ?_); rintro e w6 ⟨⟨v6, rfl, own6⟩, hb6⟩; have hb6z := Below.size hb6; (try simp only [World.size_alloc, World.size_setCell, World.size_drew] at hb6z); have hb6c0 := fun o => below_at hb6 (g) o (by first | omega | (simp only [World.size_alloc, World.size_setCell, World.size_drew]; omega)); have hb6f0 := fun o => below_fr hb6 (g) o (by first | omega | (simp only [World.size_alloc, World.size_setCell, World.size_drew]; omega)); have hb6l0 : g < (w6).heap.size := (by omega); have hb6c1 := fun o => below_at hb6 (wr.heap.size) o (by first | omega | (simp only [World.size_alloc, World.size_setCell, World.size_drew]; omega)); have hb6f1 := fun o => below_fr hb6 (wr.heap.size) o (by first | omega | (simp only [World.size_alloc, World.size_setCell, World.size_drew]; omega)); have hb6l1 : wr.heap.size < (w6).heap.size := (by omega); have hb6c2 := fun o => below_at hb6 (o13) o (by first | omega | (simp only [World.size_alloc, World.size_setCell, World.size_drew]; omega)); have hb6f2 := fun o => below_fr hb6 (o13) o (by first | omega | (simp only [World.size_alloc, World.size_setCell, World.size_drew]; omega)); have hb6l2 : o13 < (w6).heap.size := (by omega)); obtain ⟨s7, A7, n7, c7, B7, m7, d7, rfl⟩ := own6.form) | fail)
          all_goals
            have hb9 : Below wc.heap.size wc w6 := (by have z0 := Below.size hb6; (try simp only [World.size_alloc, World.size_setCell, World.size_drew, size_drewN'] at z0 ⊢; skip); repeat' (first | (with_reducible exact Below.refl _ _) | (with_reducible assumption) | (with_reducible refine Below.alloc ?_ ?_ _) | (with_reducible refine Below.drew ?_) | (with_reducible refine below_drewN ?_ _) | (with_reducible refine Below.setCell ?_ ?_ _) | (with_reducible refine Below.trans ?_ (Below.mono (by with_reducible assumption) ?_)) | omega | (simp only [World.size_alloc, World.size_setCell, World.size_drew, size_drewN']; omega) | go_size))
            have ow := HOC.out.below hb9
            have o4 := ow.set hFl (own6.rs (b0 := b0))
            have hk0' := (Kp.of_below (b0 := 0) hb9).trans (ow.kp0 o4.2)
            obtain ⟨w8, hw8⟩ : ∃ w8, w8 = (((w6.setCell ⟨g, u * 3, none⟩ (.bool s7)).setCell ⟨g, u * 3 + 1, none⟩ (.slice A7 n7 c7)).setCell ⟨g, u * 3 + 2, none⟩ (.slice B7 m7 d7)) := ⟨_, rfl⟩
            rw [← hw8] at o4 hk0'
            have hz6 := hb9.size
            have hz8 : w8.heap.size = w6.heap.size := by rw [hw8]; simp
            have x1 : w8.cell? ⟨wr.heap.size, 1, none⟩ = some (.int .i64 (y : Int)) := (grown_at o4.2 1 (by omega) (by omega)).trans ((hb9.cell (p := ⟨wr.heap.size, 1, none⟩) (by show wr.heap.size < _; omega)).trans e1)
            have x2 : w8.cell? ⟨o13, 0, none⟩ = some (.bool s4) := (grown_at o4.2 0 (by omega) (by omega)).trans ((hb9.cell (p := ⟨o13, 0, none⟩) ho2).trans k0)
            have x3 : w8.cell? ⟨o13, 1, none⟩ = some (.slice A4 n4 c4) := (grown_at o4.2 1 (by omega) (by omega)).trans ((hb9.cell (p := ⟨o13, 1, none⟩) ho2).trans k1)
            have x4 : w8.cell? ⟨o13, 2, none⟩ = some (.slice B4 m4 d4) := (grown_at o4.2 2 (by omega) (by omega)).trans ((hb9.cell (p := ⟨o13, 2, none⟩) ho2).trans k2)
            obtain ⟨s6', A6', n6', c6', B6', m6', d6', j0, j1, j2, r6⟩ := o4.1.at_ hTl
            have hXu : upd (can (X k)) u (canR (X k u - S k)) y = canR (X k y) := by rw [upd_ne _ _ (Ne.symm hFT)]
            rw [hXu] at r6
            have q6 := r6.canQ (HSZ.out k y hk)
            have kS8 := HKS.out.kp hk0'
            have K4 := Lib.hid (fun W (hb : Below w8.heap.size w8 W) => raddQ (q6.below hb) ((kS8.kp (Kp.of_below hb)).canQ hS9) hL1 (by omega))
            have e9 : ∀ i, w8.frozen? ⟨g, i, none⟩ = false := fun i => o4.1.frozen i
            have HO4 := Lib.hid o4.1
            have hgr8 := grown_trans (grown_of_below (HBC.out.trans (hb9.mono (by omega))) (some g)) o4.2
            have HG8 := Lib.hid hgr8
            have ho8 : o13 < w8.heap.size := by omega
            have hg8 : g < w8.heap.size := by omega
            have hwr8 : wr.heap.size < w8.heap.size := by omega
            have HW8 := Lib.hid hw8
            clear o4 ow hgr8 q6 kS8 r6 hXu hk0' hw8 k0 k1 k2 e0 e1 e2 e3 e4 e8 own6 hb6 hb6z hb6c0 hb6f0 hb6l0 hb6c1 hb6f1 hb6l1 hb6c2 hb6f2 hb6l2 hb9
            go_wp2
            rw [← HW8.out]
            rw [ld_later 28 (.tmp 52)]
            go_region_held3 (fun W => W.cell? ⟨wr.heap.size, 1, none⟩ = some (.int .i64 (y : Int)) ∧ W.cell? ⟨o13, 0, none⟩ = some (.bool s4) ∧ W.cell? ⟨o13, 1, none⟩ = some (.slice A4 n4 c4) ∧ W.cell? ⟨o13, 2, none⟩ = some (.slice B4 m4 d4)) (go_keep)
              (first | ((go_at_call 58; (with_reducible refine (K4.out _ (by (skip); repeat' (first | (with_reducible exact Below.refl _ _) | (with_reducible assumption) | (with_reducible refine Below.alloc ?_ ?_ _) | (with_reducible refine Below.drew ?_) | (with_reducible refine below_drewN ?_ _) | (with_reducible refine Below.setCell ?_ ?_ _) | (with_reducible refine Below.trans ?_ (Below.mono (by with_reducible assumption) ?_)) | omega | (simp only [World.size_alloc, World.size_setCell, World.size_drew, size_drewN']; omega) | go_size))).mono ?_); rintro e w7 ⟨⟨v7, rfl, own7⟩, hb7⟩; have hb7z := Below.size hb7; (try simp only [World.size_alloc, World.size_setCell, World.size_drew] at hb7z); have hb7c0 := fun o => below_at hb7 (g) o (by first | omega | (simp only [World.size_alloc, World.size_setCell, World.size_drew]; omega)); have hb7f0 := fun o => below_fr hb7 (g) o (by first | omega | (simp only [World.size_alloc, World.size_setCell, World.size_drew]; omega)); have hb7l0 : g < (w7).heap.size := (by omega); have hb7c1 := fun o => below_at hb7 (wr.heap.size) o (by first | omega | (simp only [World.size_alloc, World.size_setCell, World.size_drew]; omega)); have hb7f1 := fun o => below_fr hb7 (wr.heap.size) o (by first | omega | (simp only [World.size_alloc, World.size_setCell, World.size_drew]; omega)); have hb7l1 : wr.heap.size < (w7).heap.size := (by omega); have hb7c2 := fun o => below_at hb7 (o13) o (by first | omega | (simp only [World.size_alloc, World.size_setCell, World.size_drew]; omega)); have hb7f2 := fun o => below_fr hb7 (o13) o (by first | omega | (simp only [World.size_alloc, World.size_setCell, World.size_drew]; omega)); have hb7l2 : o13 < (w7).heap.size := (by omega)); obtain ⟨s8, A8, n8, c8, B8, m8, d8, rfl⟩ := own7.form) | fail)
            all_goals
              have hb10 : Below w8.heap.size w8 w7 := (by have z0 := Below.size hb7; (try simp only [World.size_alloc, World.size_setCell, World.size_drew, size_drewN'] at z0 ⊢; skip); repeat' (first | (with_reducible exact Below.refl _ _) | (with_reducible assumption) | (with_reducible refine Below.alloc ?_ ?_ _) | (with_reducible refine Below.drew ?_) | (with_reducible refine below_drewN ?_ _) | (with_reducible refine Below.setCell ?_ ?_ _) | (with_reducible refine Below.trans ?_ (Below.mono (by with_reducible assumption) ?_)) | omega | (simp only [World.size_alloc, World.size_setCell, World.size_drew, size_drewN']; omega) | go_size))
              have o5 := (HO4.out.below hb10).set hTl (own7.rs (b0 := b0))
              have ho5 := o5.1
              rw [upd_can, upd_can, ← HX1.out] at ho5
              have hgt := grown_trans HGR.out (grown_trans HG8.out (grown_trans (grown_of_below hb10 _) o5.2))
              have HO5 := Lib.hid ho5
              have HGT := Lib.hid hgt
              clear o5 ho5 hgt
              go_wp2
              go_roundw
              case rel => exact ⟨k + 1, by omega, by go_num, HO5.out, HGT.out⟩
              case measure => simp [intOf]; omega
    · have hkn : k = nm := by omega
      subst hkn
      have HO := Lib.hid own
      have HB := Lib.hid hbw
      clear own hgr hbw
      go_wp2
      go_ret
      exact ⟨⟨_, _, rfl, HO.out, fun q hq => by have h2 : g = q := (by injection hq); omega⟩, HB.out⟩
end Go.Proofs.YtglpknhcneggeaaGreatDoor
