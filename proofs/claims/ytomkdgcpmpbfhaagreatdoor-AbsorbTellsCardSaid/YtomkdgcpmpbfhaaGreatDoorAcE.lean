/- Contracts of functions and lemmas, used by the proofs of the given statements. No condition beyond those that each lemma names. -/
import Derived.Test.YtomkdgcpmpbfhaaGreatDoorJAbZ
import Derived.Test.YtomkdgcpmpbfhaaGreatDoorAcW
import Derived.Test.YtomkdgcpmpbfhaaGreatDoorAbE
namespace Go.Proofs.YtomkdgcpmpbfhaaGreatDoor
open Go.RowKit
set_option linter.unusedSimpArgs false
set_option linter.unusedVariables false
set_option maxRecDepth 20000
attribute [local irreducible] nv wp win plainB validR valR canR mvE chkM codeC spr sprN chg cnt cntB ixB kept sysK plB parM outK gj accL totL floL
/-! ## package absorb: Accepts -/
set_option maxHeartbeats 16000000 in
theorem Accepts_any {w : World} {AM AD AV : Option Addr} {cm cd n ca L : Nat} {c : Chn} {R : Nat → Rw} (h : ChI w w.heap.size AM cm AD cd c) (hS : Small c) (hv : RowA w w.heap.size AV n R) (hz : BigS n R) (hn : n ≤ 1000000) (hL : L ≤ 220000000) (hfz : c.codeX n R = 0 → FzL L (vecQ n R)) :
    Calls Tryz.prog 21 #[cv c.st c.sr AM c.nm cm AD c.nd cd, .slice AV n ca] w fun e w' => e = .returned (.tuple #[.bool (c.accB n R), errM (c.codeX n R)]) ∧ Below w.heap.size w w' := by
  have hs := hS.chS
  have K1 := Lib.hid (fun W (hb : Below w.heap.size w W) => live_any (h.below hb) hs)
  have KC := Lib.hid (fun W (hb : Below w.heap.size w W) => acontains_any (c := ca) (hv.below hb) hz hn)
  have HPB := Lib.hid (fun W hb => par_below (W := W) (w := w) (o := .cells #[.int .i64 c.st, .int .i64 c.sr, .slice AM c.nm cm, .slice AD c.nd cd] 25) hb)
  have HPC := Lib.hid (fun W hb => par_cells (W := W) (w := w) (a := .int .i64 c.st) (b := .int .i64 c.sr) (d := .slice AM c.nm cm) (e := .slice AD c.nd cd) (t := 25) hb)
  have hW0z : (w.alloc (.cells #[.int .i64 c.st, .int .i64 c.sr, .slice AM c.nm cm, .slice AD c.nd cd] 25)).heap.size = w.heap.size + 1 := by simp
  by_cases h0 : c.codeA = 0
  · have ok := Chn.codeA_ok h0
    have hst := ok.st
    by_cases hnn : n = c.nd
    · cases hv0 : allV n R
      · have HX := Lib.hid (Chn.codeX_v h0 hnn hv0)
        rw [hv0] at KC
        have e1 : ((n : Int) != c.st) = false := by rw [hst]; simp [hnn]
        clear h hS hv hz hfz ok hst hnn hv0 hs
        go_enter Tryz.func21, Tryz.ntmps21
        (go_wp2_with fail; (with_reducible refine (K1.out _ (by (skip); repeat' (first | (with_reducible exact Below.refl _ _) | (with_reducible assumption) | (with_reducible refine Below.alloc ?_ ?_ _) | (with_reducible refine Below.drew ?_) | (with_reducible refine below_drewN ?_ _) | (with_reducible refine Below.setCell ?_ ?_ _) | (with_reducible refine Below.trans ?_ (Below.mono (by with_reducible assumption) ?_)) | omega | (simp only [World.size_alloc, World.size_setCell, World.size_drew, size_drewN']; omega) | go_size))).mono ?_); rintro e w1 ⟨hR, hb1⟩; have hb1z := Below.size hb1; (try simp only [World.size_alloc, World.size_setCell, World.size_drew, size_drewN'] at hb1z); have hb1c0 := fun o => below_at hb1 (w.heap.size) o (by first | omega | (simp only [World.size_alloc, World.size_setCell, World.size_drew, size_drewN']; omega)); have hb1f0 := fun o => below_fr hb1 (w.heap.size) o (by first | omega | (simp only [World.size_alloc, World.size_setCell, World.size_drew, size_drewN']; omega)))
        obtain ⟨A1, c1, rfl, -⟩ := retB4_pass hR h0
        clear hR
        have hB1 := HPB.out w1 (by rw [← hW0z]; exact hb1)
        (go_wp2_with fail; (with_reducible refine (KC.out _ hB1).mono ?_); rintro e w2 ⟨rfl, hb2⟩; have hb2z := Below.size hb2; (try simp only [World.size_alloc, World.size_setCell, World.size_drew, size_drewN'] at hb2z))
        go_wp2
        go_ret2
        exact ⟨by rw [HX.out.1, HX.out.2, errM_n (by omega)]; rfl, hB1.trans (hb2.mono hB1.size)⟩
      · have hx0 := Chn.codeX_z h0 hnn hv0
        have hY : (∀ s, s < c.nd → c.okX (vecQ n R) s) → c.accB n R = true := fun h => Chn.acc_yes hx0 h
        have hNo : ∀ s, s < c.nd → ¬ c.okX (vecQ n R) s → c.accB n R = false := fun s hs h => Chn.acc_no hs h
        have hF := hfz hx0
        obtain ⟨bA, hbA⟩ : ∃ bA, bA = c.accB n R := ⟨_, rfl⟩
        rw [← hbA] at hY hNo
        rw [hx0, ← hbA]
        have hVc := hv.can_ hv0
        obtain ⟨X, hXe⟩ : ∃ X, X = vecQ n R := ⟨_, rfl⟩
        rw [← hXe] at hVc hF hY hNo
        obtain ⟨M, hM⟩ : ∃ M, M = 220000100 := ⟨_, rfl⟩
        have hac := hF.accs (l := c.lv) (F := c.f) (T := c.t) (hS.rts ok)
        have HAC : Hid (∀ k, k ≤ c.nm → ∀ s, Sz M (accL c.lv c.f c.t c.q X k s)) := fun k hk s => (hac.1 k hk s).more (by omega)
        have HAX : Hid (∀ k, k < c.nm → ∀ s, Sz M (accL c.lv c.f c.t c.q X k s + c.q k * X s)) := fun k hk s => (hac.2.1 k hk s).more (by omega)
        have HPR : Hid (∀ k, k < c.nm → ∀ s, Sz M (c.q k * X s)) := fun k hk s => (hF.prod (hS.rts ok) hk s).more (by omega)
        have HXS : Hid (∀ s, Sz M (X s)) := fun s => ((hF.more (show L ≤ L + 1 by omega)).sz (by omega) s).more (by omega)
        obtain ⟨AC, hAC⟩ : ∃ AC : Nat → Nat → Rat, AC = fun k => accL c.lv c.f c.t c.q X k := ⟨_, rfl⟩
        have HAC : Hid (∀ k, k ≤ c.nm → ∀ s, Sz M (AC k s)) := fun k hk s => by rw [hAC]; exact HAC.out k hk s
        have HAX : Hid (∀ k, k < c.nm → ∀ s, Sz M (AC k s + c.q k * X s)) := fun k hk s => by rw [hAC]; exact HAX.out k hk s
        have HA0 : Hid (AC 0 = fun _ => 0) := by show AC 0 = _; rw [hAC]; exact (by unfold accL; rfl : accL c.lv c.f c.t c.q X 0 = fun _ => 0)
        have HAy : Hid (∀ k, c.lv (c.t k) = true → AC (k + 1) = upd (upd (AC k) (c.f k) (AC k (c.f k) + c.q k * X (c.f k))) (c.f k) (AC k (c.f k) + c.q k * X (c.f k) - c.q k * X (c.t k))) := fun k h => by rw [hAC]; exact accL_yes h
        have HAn : Hid (∀ k, c.lv (c.t k) = false → AC (k + 1) = upd (AC k) (c.f k) (AC k (c.f k) + c.q k * X (c.f k))) := fun k h => by rw [hAC]; exact accL_no h
        have hok : ∀ s, c.okX X s ↔ (c.lv s = true → AC c.nm s = 1) ∧ (c.lv s = false → X s = 0) := fun s => by rw [hAC]; exact Iff.refl _
        have HMV := Lib.hid (fun W hb k hk => h.mv_later (W := W) ok hb (k := k) hk)
        have HSQ := Lib.hid (fun k hk => (hs.siz ok).raw k hk)
        have hnm := hs.nm
        have hn1 := ok.lo
        have hn9 := hS.nd ok
        subst hnn
        have hY' : (∀ s, s < c.nd → (c.lv s = true → AC c.nm s = 1) ∧ (c.lv s = false → X s = 0)) → bA = true := fun h => hY fun s hs => (hok s).2 (h s hs)
        have hN' : ∀ s, s < c.nd → ¬ ((c.lv s = true → AC c.nm s = 1) ∧ (c.lv s = false → X s = 0)) → bA = false := fun s hs h => hNo s hs fun e => h ((hok s).1 e)
        obtain ⟨LV, hLV⟩ : ∃ LV, LV = c.lv := ⟨_, rfl⟩
        rw [← hLV] at K1 HAy HAn hY' hN'
        have HV := Lib.hid hVc
        have HY := Lib.hid hY'
        have HN := Lib.hid hN'
        rw [h0, hst] at K1
        rw [hst] at HPC HPB hW0z
        rw [hst]
        have e1 : ((c.nd : Int) != (c.nd : Int)) = false := by simp
        have hML : 400 ≤ M ∧ M ≤ 1000000000 := by omega
        have K0 : Hid (∀ W : World, Calls Tryz.prog 28 #[.int .i64 1] W fun e w' => RetQ W.heap.size ((1 : Nat) : Rat) e w' ∧ Below W.heap.size W w') := fun W => ofQ 1 W (by omega)
        rw [hv0] at KC
        clear h hS hv hz hfz ok hst hv0 hs hF hY hNo hbA hVc hXe hM hac hAC hok hY' hN' hLV h0 hx0
        go_enter Tryz.func21, Tryz.ntmps21
        (go_wp2_with fail; (with_reducible refine (K1.out _ (by (skip); repeat' (first | (with_reducible exact Below.refl _ _) | (with_reducible assumption) | (with_reducible refine Below.alloc ?_ ?_ _) | (with_reducible refine Below.drew ?_) | (with_reducible refine below_drewN ?_ _) | (with_reducible refine Below.setCell ?_ ?_ _) | (with_reducible refine Below.trans ?_ (Below.mono (by with_reducible assumption) ?_)) | omega | (simp only [World.size_alloc, World.size_setCell, World.size_drew, size_drewN']; omega) | go_size))).mono ?_); rintro e w1 ⟨hR, hb1⟩; have hb1z := Below.size hb1; (try simp only [World.size_alloc, World.size_setCell, World.size_drew, size_drewN'] at hb1z); have hb1c0 := fun o => below_at hb1 (w.heap.size) o (by first | omega | (simp only [World.size_alloc, World.size_setCell, World.size_drew, size_drewN']; omega)); have hb1f0 := fun o => below_fr hb1 (w.heap.size) o (by first | omega | (simp only [World.size_alloc, World.size_setCell, World.size_drew, size_drewN']; omega)))
        obtain ⟨A1, c1, rfl, ow1⟩ := retB4_pass hR rfl
        have HMK := Lib.hid ow1.mk
        have HB1 : Hid (Below (w.heap.size + 1) (w.alloc (.cells #[.int .i64 (c.nd : Int), .int .i64 c.sr, .slice AM c.nm cm, .slice AD c.nd cd] 25)) w1) := by show Below _ _ _; simpa using hb1
        have hz1 := HB1.out.size
        rw [hW0z] at hz1
        clear hR ow1 hb1 hb1c0 hb1f0 hW0z
        generalize w.alloc (.cells #[.int .i64 (c.nd : Int), .int .i64 c.sr, .slice AM c.nm cm, .slice AD c.nd cd] 25) = W0 at *
        obtain ⟨y0, -, -, -⟩ := HPC.out _ HB1.out
        (go_wp2_with fail; (with_reducible refine (KC.out _ (HPB.out _ HB1.out)).mono ?_); rintro e w2 ⟨rfl, hb2⟩; have hb2z := Below.size hb2; (try simp only [World.size_alloc, World.size_setCell, World.size_drew, size_drewN'] at hb2z); have hb2c0 := fun o => below_at hb2 (w.heap.size) o (by first | omega | (simp only [World.size_alloc, World.size_setCell, World.size_drew, size_drewN']; omega)); have hb2f0 := fun o => below_fr hb2 (w.heap.size) o (by first | omega | (simp only [World.size_alloc, World.size_setCell, World.size_drew, size_drewN']; omega)))
        have HB2 := Lib.hid hb2
        have hz2 := hb2.size
        obtain ⟨z0, -, -, -⟩ := HPC.out _ (HB1.out.trans (HB2.out.mono (by omega)))
        clear hb2 hb2c0 hb2f0 y0
        go_wp2_with (first | (at_make; refine wpList_makeR rfl (.tmp 31) (.tmp 31) rfl w2.heap.size c.nd (c.nd : Int) (c.nd : Int) (by first | rfl | simp [Act.eval]) (by first | rfl | simp [Act.eval]) rfl rfl (by omega) (Nat.le_refl _) ?_; intro w3 own3 hb3; (obtain ⟨x0, x1, x2, x3⟩ := HPC.out _ (HB1.out.trans ((HB2.out.trans (hb3.mono hz2)).mono (by omega))))) | fail)
        have HOL : Hid (OwR w3 w2.heap.size (some ⟨w2.heap.size, 0, none⟩) c.nd c.nd (can (AC 0))) := own3.congr fun s hs => by rw [HA0.out]
        have HBL := Lib.hid hb3
        have hgl3 := own3.lt
        clear own3 hb3
        go_loopw [36] (fun i wr => ∃ k : Nat, k ≤ c.nm ∧ i = .int .i64 (k : Int) ∧ OwR wr w2.heap.size (some ⟨w2.heap.size, 0, none⟩) c.nd c.nd (can (AC k)) ∧ Below w2.heap.size w2 wr) (fun i _ => c.nm - (intOf i).toNat)
        case atStart => exact ⟨0, Nat.zero_le _, rfl, HOL.out, HBL.out⟩
        case round =>
          clear HOL HBL x0 x1 x2 x3
          obtain ⟨k, hk, rfl, own, hb⟩ := hrel
          have hz := hb.size
          have hb1r : Below w1.heap.size w1 wr := HB2.out.trans (hb.mono hz2)
          have hbW := HPB.out _ (HB1.out.trans (hb1r.mono (by omega)))
          by_cases hlt : k < c.nm
          · obtain ⟨bm, om, s1, A1', n1, c1', B1, m1, d1, rfl, hbm, G0, G1, G2, G3, G4, r1, hfn, htn, hft⟩ := HMV.out w (Below.refl _ _) k hlt
            have g0 := (hbW.cell (lt_of_cell G0)).trans G0
            have g1 := (hbW.cell (lt_of_cell G1)).trans G1
            have g2 := (hbW.cell (lt_of_cell G2)).trans G2
            have g3 := (hbW.cell (lt_of_cell G3)).trans G3
            have g4 := (hbW.cell (lt_of_cell G4)).trans G4
            obtain ⟨b1, ol, rfl, hbl, mt2⟩ := (HMK.out).later HB2.out htn
            have mt := (hb.cell (p := ⟨b1, ol + c.t k, none⟩) (by show b1 < _; omega)).trans mt2
            obtain ⟨bx, ox, s2, A2', n2, c2', B2, m2, d2, rfl, hbx, v0, v1, v2, rf2⟩ := HV.out.at_ hfn
            obtain ⟨bx', ox', s3, A3', n3, c3', B3, m3, d3, ex, -, u0, u1, u2, rt2⟩ := HV.out.at_ htn
            injection ex with ex
            injection ex with ex exo
            subst ex exo
            have vx0 := (hbW.cell (lt_of_cell v0)).trans v0
            have vx1 := (hbW.cell (lt_of_cell v1)).trans v1
            have vx2 := (hbW.cell (lt_of_cell v2)).trans v2
            have hAy := HAy.out k
            have hAn := HAn.out k
            have hPF := HPR.out k hlt (c.f k)
            have hPT := HPR.out k hlt (c.t k)
            have hSE := HAC.out k hk (c.f k)
            have hSX := HAX.out k hlt (c.f k)
            obtain ⟨q1, q2⟩ := HSQ.out k hlt
            have hqv : valR (c.R k) = c.q k := rfl
            have qm := r1.rdq (L := M) (by omega) (by omega)
            rw [hqv] at qm
            have qf := rf2.canQ (HXS.out (c.f k))
            have qt := rt2.canQ (HXS.out (c.t k))
            obtain ⟨f, hf⟩ : ∃ f, f = c.f k := ⟨_, rfl⟩
            obtain ⟨tt, ht⟩ : ∃ tt, tt = c.t k := ⟨_, rfl⟩
            obtain ⟨q, hq⟩ : ∃ q, q = c.q k := ⟨_, rfl⟩
            rw [← hf] at g0 hfn hAy hAn hPF hft qf vx0 vx1 vx2 hSE hSX
            rw [← ht] at g1 mt mt2 htn hAy hAn hPT hft qt u0 u1 u2
            rw [← hq] at hAy hAn hPF hPT qm hSX
            have KM := Lib.hid (fun W (hb : Below w.heap.size w W) => mulQ (qm.below hb) (qf.below hb) (by omega) (by omega))
            have KM2 := Lib.hid (fun W (hb : Below w.heap.size w W) => mulQ (qm.below hb) (qt.below hb) (by omega) (by omega))
            have HU := Lib.hid (fun W (hb : Below w.heap.size w W) => And.intro ((hb.cell (lt_of_cell u0)).trans u0) (And.intro ((hb.cell (lt_of_cell u1)).trans u1) ((hb.cell (lt_of_cell u2)).trans u2)))
            have HMT := Lib.hid mt2
            clear hf ht hq hqv q1 q2 rf2 rt2 v0 v1 v2 u0 u1 u2 r1 G0 G1 G2 G3 G4 qm qf qt mt2
            have hki : (k : Int) < (c.nm : Int) := by omega
            have hk0 : (0 : Int) ≤ (k : Int) := by omega
            have hfi : (f : Int) < (c.nd : Int) := by omega
            have hf0 : (0 : Int) ≤ (f : Int) := by omega
            have hti : (tt : Int) < (c.nd : Int) := by omega
            have ht0 : (0 : Int) ≤ (tt : Int) := by omega
            have hfN : f < c.nd := hfn
            have htN : tt < c.nd := htn
            have hol := own.lt
            have hbl2 : b1 < wr.heap.size := by omega
            have hwr2 : w.heap.size < wr.heap.size := by omega
            have hwr3 : w.heap.size + 1 ≤ w1.heap.size := hz1
            have hbx2 : bx < wr.heap.size := by omega
            have HO := Lib.hid own
            have HB := Lib.hid hb
            have HAY := Lib.hid hAy
            have HAN := Lib.hid hAn
            clear own hb hAy hAn
            (have oac := fun o i => below_at ((Below.refl wr.heap.size wr).alloc (Nat.le_refl _) o) (w.heap.size) i (by omega)); (have oaf := fun o i => below_fr ((Below.refl wr.heap.size wr).alloc (Nat.le_refl _) o) (w.heap.size) i (by omega))
            (have obc := fun o i => below_at ((Below.refl wr.heap.size wr).alloc (Nat.le_refl _) o) (b1) i (by omega)); (have obf := fun o i => below_fr ((Below.refl wr.heap.size wr).alloc (Nat.le_refl _) o) (b1) i (by omega))
            (have occ := fun o i => below_at ((Below.refl wr.heap.size wr).alloc (Nat.le_refl _) o) (bx) i (by omega)); (have ocf := fun o i => below_fr ((Below.refl wr.heap.size wr).alloc (Nat.le_refl _) o) (bx) i (by omega))
            have hal : Below wr.heap.size wr (wr.alloc (.cells #[.int .i64 (f : Int), .int .i64 (tt : Int), .bool s1, .slice A1' n1 c1', .slice B1 m1 d1] 65)) := (Below.refl _ _).alloc (Nat.le_refl _) _
            have HAL := Lib.hid hal
            clear hal
            go_wp2
            generalize hwq : wr.alloc (.cells #[.int .i64 (f : Int), .int .i64 (tt : Int), .bool s1, .slice A1' n1 c1', .slice B1 m1 d1] 65) = wq at *
            have hAL := HAL.out
            have z0 : wq.cell? ⟨wr.heap.size, 0, none⟩ = some (.int .i64 (f : Int)) := by rw [← hwq]; simp
            have z1 : wq.cell? ⟨wr.heap.size, 1, none⟩ = some (.int .i64 (tt : Int)) := by rw [← hwq]; simp
            have z2 : wq.cell? ⟨wr.heap.size, 2, none⟩ = some (.bool s1) := by rw [← hwq]; simp
            have z3 : wq.cell? ⟨wr.heap.size, 3, none⟩ = some (.slice A1' n1 c1') := by rw [← hwq]; simp
            have z4 : wq.cell? ⟨wr.heap.size, 4, none⟩ = some (.slice B1 m1 d1) := by rw [← hwq]; simp
            have hwz : wq.heap.size = wr.heap.size + 1 := by rw [← hwq]; simp
            have V0 := (hAL.cell (p := ⟨bx, ox + f * 3, none⟩) hbx2).trans vx0
            have V1 := (hAL.cell (p := ⟨bx, ox + f * 3 + 1, none⟩) hbx2).trans vx1
            have V2 := (hAL.cell (p := ⟨bx, ox + f * 3 + 2, none⟩) hbx2).trans vx2
            have hbWq : Below w.heap.size w wq := hbW.trans (hAL.mono (by omega))
            have hown := HO.out.below hAL
            obtain ⟨s0, A3, n3', c3'', B3', m3', d3', o0, o1, o2, r0⟩ := hown.at_ hfN
            have qd := (show RdS wq _ _ (canR (AC k f)) from r0).canQ hSE
            have KA := Lib.hid (fun W base v1 (hb : Below wq.heap.size wq W) (hv : OwQ W base v1 (q * X f)) => addQ (qd.below hb) (hv.rq hPF) (by omega) (by omega))
            have hfz := hown.frozen
            have HOn := Lib.hid hown
            have HAL2 := Lib.hid hAL
            clear hown r0 qd hAL HAL hwq vx0 vx1 vx2 g0 g1 g2 g3 g4 mt oac oaf obc obf occ ocf
            have ne1 : ¬ (wr.heap.size = w2.heap.size) := by omega
            have ne2 : ¬ (w2.heap.size = wr.heap.size) := by omega
            have ne3 : ¬ (bx = w2.heap.size) := by omega
            have ne4 : ¬ (w2.heap.size = bx) := by omega
            have ne5 : ¬ (b1 = w2.heap.size) := by omega
            have ne6 : ¬ (w2.heap.size = b1) := by omega
            rw [ld_later 50 (.tmp 46)]
            go_region_held3 (fun W => W.cell? ⟨wr.heap.size, 0, none⟩ = some (.int .i64 (f : Int)) ∧ W.cell? ⟨wr.heap.size, 1, none⟩ = some (.int .i64 (tt : Int)) ∧ W.cell? ⟨wr.heap.size, 2, none⟩ = some (.bool s1) ∧ W.cell? ⟨wr.heap.size, 3, none⟩ = some (.slice A1' n1 c1') ∧ W.cell? ⟨wr.heap.size, 4, none⟩ = some (.slice B1 m1 d1) ∧ W.cell? ⟨bx, ox + f * 3, none⟩ = some (.bool s2) ∧ W.cell? ⟨bx, ox + f * 3 + 1, none⟩ = some (.slice A2' n2 c2') ∧ W.cell? ⟨bx, ox + f * 3 + 2, none⟩ = some (.slice B2 m2 d2)) (go_keep)
              (first | ((go_at_call 36; (with_reducible refine (KM.out _ (by (skip); repeat' (first | (with_reducible exact Below.refl _ _) | (with_reducible assumption) | (with_reducible refine Below.alloc ?_ ?_ _) | (with_reducible refine Below.drew ?_) | (with_reducible refine below_drewN ?_ _) | (with_reducible refine Below.setCell ?_ ?_ _) | (with_reducible refine Below.trans ?_ (Below.mono (by with_reducible assumption) ?_)) | omega | (simp only [World.size_alloc, World.size_setCell, World.size_drew, size_drewN']; omega) | go_size))).mono ?_); rintro e w4 ⟨⟨v4, rfl, own4⟩, hb6⟩; have hb6z := Below.size hb6; (try simp only [World.size_alloc, World.size_setCell, World.size_drew] at hb6z); have hb6c0 := fun o => below_at hb6 (w2.heap.size) o (by first | omega | (simp only [World.size_alloc, World.size_setCell, World.size_drew]; omega)); have hb6f0 := fun o => below_fr hb6 (w2.heap.size) o (by first | omega | (simp only [World.size_alloc, World.size_setCell, World.size_drew]; omega)); have hb6l0 : w2.heap.size < (w4).heap.size := (by omega); have hb6c1 := fun o => below_at hb6 (wr.heap.size) o (by first | omega | (simp only [World.size_alloc, World.size_setCell, World.size_drew]; omega)); have hb6f1 := fun o => below_fr hb6 (wr.heap.size) o (by first | omega | (simp only [World.size_alloc, World.size_setCell, World.size_drew]; omega)); have hb6l1 : wr.heap.size < (w4).heap.size := (by omega); have hb6c2 := fun o => below_at hb6 (bx) o (by first | omega | (simp only [World.size_alloc, World.size_setCell, World.size_drew]; omega)); have hb6f2 := fun o => below_fr hb6 (bx) o (by first | omega | (simp only [World.size_alloc, World.size_setCell, World.size_drew]; omega)); have hb6l2 : bx < (w4).heap.size := (by omega)); obtain ⟨s4, A5, n5, c5, B5, m5, d5, rfl⟩ := own4.form) | ((go_at_call 27; (with_reducible refine (KA.out _ _ _ (by have z0 := Below.size hb6; (try simp only [World.size_alloc, World.size_setCell, World.size_drew, size_drewN'] at z0 ⊢; skip); repeat' (first | (with_reducible exact Below.refl _ _) | (with_reducible assumption) | (with_reducible refine Below.alloc ?_ ?_ _) | (with_reducible refine Below.drew ?_) | (with_reducible refine below_drewN ?_ _) | (with_reducible refine Below.setCell ?_ ?_ _) | (with_reducible refine Below.trans ?_ (Below.mono (by with_reducible assumption) ?_)) | omega | (simp only [World.size_alloc, World.size_setCell, World.size_drew, size_drewN']; omega) | go_size)) own4).mono ?_); rintro e w5 ⟨⟨v5, rfl, own5⟩, hb7⟩; have hb7z := Below.size hb7; (try simp only [World.size_alloc, World.size_setCell, World.size_drew] at hb7z); have hb7c0 := fun o => below_at hb7 (w2.heap.size) o (by first | omega | (simp only [World.size_alloc, World.size_setCell, World.size_drew]; omega)); have hb7f0 := fun o => below_fr hb7 (w2.heap.size) o (by first | omega | (simp only [World.size_alloc, World.size_setCell, World.size_drew]; omega)); have hb7l0 : w2.heap.size < (w5).heap.size := (by omega); have hb7c1 := fun o => below_at hb7 (wr.heap.size) o (by first | omega | (simp only [World.size_alloc, World.size_setCell, World.size_drew]; omega)); have hb7f1 := fun o => below_fr hb7 (wr.heap.size) o (by first | omega | (simp only [World.size_alloc, World.size_setCell, World.size_drew]; omega)); have hb7l1 : wr.heap.size < (w5).heap.size := (by omega); have hb7c2 := fun o => below_at hb7 (bx) o (by first | omega | (simp only [World.size_alloc, World.size_setCell, World.size_drew]; omega)); have hb7f2 := fun o => below_fr hb7 (bx) o (by first | omega | (simp only [World.size_alloc, World.size_setCell, World.size_drew]; omega)); have hb7l2 : bx < (w5).heap.size := (by omega)); obtain ⟨s6, A7, n7, c7, B7, m7, d7, rfl⟩ := own5.form) | fail)
            all_goals
              have hb9 : Below wq.heap.size wq w5 := (by have z0 := Below.size hb6; have z1 := Below.size hb7; (try simp only [World.size_alloc, World.size_setCell, World.size_drew, size_drewN'] at z0 z1 ⊢; skip); repeat' (first | (with_reducible exact Below.refl _ _) | (with_reducible assumption) | (with_reducible refine Below.alloc ?_ ?_ _) | (with_reducible refine Below.drew ?_) | (with_reducible refine below_drewN ?_ _) | (with_reducible refine Below.setCell ?_ ?_ _) | (with_reducible refine Below.trans ?_ (Below.mono (by with_reducible assumption) ?_)) | omega | (simp only [World.size_alloc, World.size_setCell, World.size_drew, size_drewN']; omega) | go_size))
              have hst := (HOn.out.below hb9).set hfN (own5.rs (b0 := w2.heap.size))
              rw [upd_can] at hst
              have HST := Lib.hid hst
              have hbz9 := (HB.out.trans (HAL2.out.mono (by omega))).trans ((hb9.mono (by omega)).trans (below_of_row hst.2 (fun q hq => by injection hq with hq; omega) (by have := hb9.size; omega)))
              have HBZ := Lib.hid hbz9
              have HB9 := Lib.hid hb9
              have Z0 := (hb7c1 0).trans ((hb6c1 0).trans z0)
              have Z1 := (hb7c1 1).trans ((hb6c1 1).trans z1)
              have Z2 := (hb7c1 2).trans ((hb6c1 2).trans z2)
              have Z3 := (hb7c1 3).trans ((hb6c1 3).trans z3)
              have Z4 := (hb7c1 4).trans ((hb6c1 4).trans z4)
              have h5z : wr.heap.size < w5.heap.size := by have := hb9.size; omega
              obtain ⟨wy, hwy⟩ : ∃ wy, wy = (((w5.setCell ⟨w2.heap.size, f * 3, none⟩ (.bool s6)).setCell ⟨w2.heap.size, f * 3 + 1, none⟩ (.slice A7 n7 c7)).setCell ⟨w2.heap.size, f * 3 + 2, none⟩ (.slice B7 m7 d7)) := ⟨_, rfl⟩
              rw [← hwy] at HST HBZ ⊢
              have hfar : ∀ j, wy.cell? ⟨wr.heap.size, j, none⟩ = w5.cell? ⟨wr.heap.size, j, none⟩ := fun j => HST.out.2.cell_far ⟨wr.heap.size, j, none⟩ h5z (fun e => ne1 (Option.some.inj e))
              have Y0 := (hfar 0).trans Z0
              have Y1 := (hfar 1).trans Z1
              have Y2 := (hfar 2).trans Z2
              have Y3 := (hfar 3).trans Z3
              have Y4 := (hfar 4).trans Z4
              have mty := (HBZ.out.cell (p := ⟨b1, ol + tt, none⟩) (by show b1 < _; omega)).trans HMT.out
              have hyz : wr.heap.size < wy.heap.size := Nat.lt_of_lt_of_le h5z HST.out.2.size
              clear hst hbz9 own4 own5 hb6 hb7 hb9 HB9 Z0 Z1 Z2 Z3 Z4 z0 z1 z2 z3 z4 hb6c0 hb6c1 hb6c2 hb7c0 hb7c1 hb7c2 hb6f0 hb6f1 hb6f2 hb7f0 hb7f1 hb7f2 hfar hwy V0 V1 V2 o0 o1 o2
              cases hLt : LV tt
              · rw [hLt] at mty
                have HE := Lib.hid (HAN.out hLt)
                clear hLt
                go_wp2
                go_roundw
                case rel => exact ⟨k + 1, by omega, by go_num, by rw [HE.out]; exact HST.out.1, HBZ.out⟩
                case measure => simp [intOf]; omega
              · rw [hLt] at mty
                have HE := Lib.hid (HAY.out hLt)
                clear hLt
                have hbWy : Below w.heap.size w wy := HPB.out _ (HB1.out.trans ((HB2.out.trans (HBZ.out.mono hz2)).mono (by omega)))
                obtain ⟨U0, U1, U2⟩ := HU.out wy hbWy
                obtain ⟨s8, A8, n8, c8, B8, m8, d8, o0, o1, o2, r8⟩ := HST.out.1.at_ hfN
                have qd8 := (show RdS wy _ _ (canR (upd (AC k) f (AC k f + q * X f) f)) from r8)
                rw [show upd (AC k) f (AC k f + q * X f) f = AC k f + q * X f by unfold upd; rw [if_pos rfl]] at qd8
                have qd9 := qd8.canQ hSX
                have KS := Lib.hid (fun W base v1 (hb : Below wy.heap.size wy W) (hv : OwQ W base v1 (q * X tt)) => subQ (qd9.below hb) (hv.rq hPT) (by omega) (by omega))
                have hfy := HST.out.1.frozen
                clear r8 qd8 qd9
                go_wp2
                rw [ld_later 50 (.tmp 69)]
                go_region_held3 (fun W => W.cell? ⟨wr.heap.size, 0, none⟩ = some (.int .i64 (f : Int)) ∧ W.cell? ⟨wr.heap.size, 1, none⟩ = some (.int .i64 (tt : Int)) ∧ W.cell? ⟨wr.heap.size, 2, none⟩ = some (.bool s1) ∧ W.cell? ⟨wr.heap.size, 3, none⟩ = some (.slice A1' n1 c1') ∧ W.cell? ⟨wr.heap.size, 4, none⟩ = some (.slice B1 m1 d1) ∧ W.cell? ⟨bx, ox + tt * 3, none⟩ = some (.bool s3) ∧ W.cell? ⟨bx, ox + tt * 3 + 1, none⟩ = some (.slice A3' n3 c3') ∧ W.cell? ⟨bx, ox + tt * 3 + 2, none⟩ = some (.slice B3 m3 d3)) (go_keep)
                  (first | ((go_at_call 36; (with_reducible refine (KM2.out _ (by (skip); repeat' (first | (with_reducible exact Below.refl _ _) | (with_reducible assumption) | (with_reducible refine Below.alloc ?_ ?_ _) | (with_reducible refine Below.drew ?_) | (with_reducible refine below_drewN ?_ _) | (with_reducible refine Below.setCell ?_ ?_ _) | (with_reducible refine Below.trans ?_ (Below.mono (by with_reducible assumption) ?_)) | omega | (simp only [World.size_alloc, World.size_setCell, World.size_drew, size_drewN']; omega) | go_size))).mono ?_); rintro e w7 ⟨⟨v7, rfl, own7⟩, hb10⟩; have hb10z := Below.size hb10; (try simp only [World.size_alloc, World.size_setCell, World.size_drew] at hb10z); have hb10c0 := fun o => below_at hb10 (w2.heap.size) o (by first | omega | (simp only [World.size_alloc, World.size_setCell, World.size_drew]; omega)); have hb10f0 := fun o => below_fr hb10 (w2.heap.size) o (by first | omega | (simp only [World.size_alloc, World.size_setCell, World.size_drew]; omega)); have hb10l0 : w2.heap.size < (w7).heap.size := (by omega); have hb10c1 := fun o => below_at hb10 (wr.heap.size) o (by first | omega | (simp only [World.size_alloc, World.size_setCell, World.size_drew]; omega)); have hb10f1 := fun o => below_fr hb10 (wr.heap.size) o (by first | omega | (simp only [World.size_alloc, World.size_setCell, World.size_drew]; omega)); have hb10l1 : wr.heap.size < (w7).heap.size := (by omega); have hb10c2 := fun o => below_at hb10 (bx) o (by first | omega | (simp only [World.size_alloc, World.size_setCell, World.size_drew]; omega)); have hb10f2 := fun o => below_fr hb10 (bx) o (by first | omega | (simp only [World.size_alloc, World.size_setCell, World.size_drew]; omega)); have hb10l2 : bx < (w7).heap.size := (by omega)); obtain ⟨s4, A5, n5, c5, B5, m5, d5, rfl⟩ := own7.form) | ((go_at_call 34; (with_reducible refine (KS.out _ _ _ (by have z0 := Below.size hb10; (try simp only [World.size_alloc, World.size_setCell, World.size_drew, size_drewN'] at z0 ⊢; skip); repeat' (first | (with_reducible exact Below.refl _ _) | (with_reducible assumption) | (with_reducible refine Below.alloc ?_ ?_ _) | (with_reducible refine Below.drew ?_) | (with_reducible refine below_drewN ?_ _) | (with_reducible refine Below.setCell ?_ ?_ _) | (with_reducible refine Below.trans ?_ (Below.mono (by with_reducible assumption) ?_)) | omega | (simp only [World.size_alloc, World.size_setCell, World.size_drew, size_drewN']; omega) | go_size)) own7).mono ?_); rintro e w8 ⟨⟨v8, rfl, own8⟩, hb11⟩; have hb11z := Below.size hb11; (try simp only [World.size_alloc, World.size_setCell, World.size_drew] at hb11z); have hb11c0 := fun o => below_at hb11 (w2.heap.size) o (by first | omega | (simp only [World.size_alloc, World.size_setCell, World.size_drew]; omega)); have hb11f0 := fun o => below_fr hb11 (w2.heap.size) o (by first | omega | (simp only [World.size_alloc, World.size_setCell, World.size_drew]; omega)); have hb11l0 : w2.heap.size < (w8).heap.size := (by omega); have hb11c1 := fun o => below_at hb11 (wr.heap.size) o (by first | omega | (simp only [World.size_alloc, World.size_setCell, World.size_drew]; omega)); have hb11f1 := fun o => below_fr hb11 (wr.heap.size) o (by first | omega | (simp only [World.size_alloc, World.size_setCell, World.size_drew]; omega)); have hb11l1 : wr.heap.size < (w8).heap.size := (by omega); have hb11c2 := fun o => below_at hb11 (bx) o (by first | omega | (simp only [World.size_alloc, World.size_setCell, World.size_drew]; omega)); have hb11f2 := fun o => below_fr hb11 (bx) o (by first | omega | (simp only [World.size_alloc, World.size_setCell, World.size_drew]; omega)); have hb11l2 : bx < (w8).heap.size := (by omega)); obtain ⟨s9, A9, n9, c9, B9, m9, d9, rfl⟩ := own8.form) | fail)
                all_goals
                  have hb12 : Below wy.heap.size wy w8 := (by have z0 := Below.size hb10; have z1 := Below.size hb11; (try simp only [World.size_alloc, World.size_setCell, World.size_drew, size_drewN'] at z0 z1 ⊢; skip); repeat' (first | (with_reducible exact Below.refl _ _) | (with_reducible assumption) | (with_reducible refine Below.alloc ?_ ?_ _) | (with_reducible refine Below.drew ?_) | (with_reducible refine below_drewN ?_ _) | (with_reducible refine Below.setCell ?_ ?_ _) | (with_reducible refine Below.trans ?_ (Below.mono (by with_reducible assumption) ?_)) | omega | (simp only [World.size_alloc, World.size_setCell, World.size_drew, size_drewN']; omega) | go_size))
                  have hst := (HST.out.1.below hb12).set hfN (own8.rs (b0 := w2.heap.size))
                  rw [upd_can, ← HE.out] at hst
                  have HS2 := Lib.hid hst.1
                  have hbz9 := HBZ.out.trans ((hb12.mono (by omega)).trans (below_of_row hst.2 (fun q hq => by injection hq with hq; omega) (by have := hb12.size; omega)))
                  have HBZ2 := Lib.hid hbz9
                  clear hst hbz9 own7 own8 hb10 hb11 hb12
                  go_wp2
                  go_roundw
                  case rel => exact ⟨k + 1, by omega, by go_num, HS2.out, HBZ2.out⟩
                  case measure => simp [intOf]; omega
          · have hkm : k = c.nm := by omega
            subst hkm
            have HOW := Lib.hid own
            have HBE := Lib.hid hb
            have hgr := own.lt
            clear own hb
            obtain ⟨wE, hwE⟩ : ∃ wE, wE = wr := ⟨_, rfl⟩
            rw [← hwE] at HOW HBE hgr ⊢
            clear hwE
            go_wp2
            go_loopw [84] (fun i wr => ∃ k : Nat, k ≤ c.nd ∧ i = .int .i64 (k : Int) ∧ (∀ s, s < k → (LV s = true → AC c.nm s = 1) ∧ (LV s = false → X s = 0)) ∧ Below wE.heap.size wE wr) (fun i _ => c.nd - (intOf i).toNat)
            case atStart => exact ⟨0, Nat.zero_le _, rfl, fun s hs => by omega, Below.refl _ _⟩
            case round =>
              obtain ⟨k, hk, rfl, hall, hb⟩ := hrel
              have hz9 := hb.size
              have hzE := HBE.out.size
              have hb2r : Below w2.heap.size w2 wr := HBE.out.trans (hb.mono (by omega))
              have hb1r : Below w1.heap.size w1 wr := HB2.out.trans (hb2r.mono hz2)
              have hbW := HPB.out _ (HB1.out.trans (hb1r.mono (by omega)))
              have HAll := Lib.hid hall
              clear hall
              by_cases hlt : k < c.nd
              · obtain ⟨b1, ol, rfl, hbl, mt⟩ := (HMK.out).later hb1r hlt
                obtain ⟨bx, ox, s3, A3', n3, c3', B3, m3, d3, rfl, hbx, u0, u1, u2, rt2⟩ := HV.out.at_ hlt
                have ux0 := (hbW.cell (lt_of_cell u0)).trans u0
                have ux1 := (hbW.cell (lt_of_cell u1)).trans u1
                have ux2 := (hbW.cell (lt_of_cell u2)).trans u2
                have qx := (rt2.kp (Kp.of_below hbW)).canQ (HXS.out k)
                have hown := HOW.out.below hb
                obtain ⟨s0, A4, n4, c4, B4, m4, d4, o0, o1, o2, r0⟩ := hown.at_ hlt
                have qd := (show RdS wr _ _ (canR (AC c.nm k)) from r0).canQ (HAC.out c.nm (Nat.le_refl _) k)
                have hol := hown.lt
                have hki : (k : Int) < (c.nd : Int) := by omega
                have hk0 : (0 : Int) ≤ (k : Int) := by omega
                have hkN : k < c.nd := hlt
                have hbl2 : b1 < wr.heap.size := by omega
                have hbx2 : bx < wr.heap.size := by omega
                have HB := Lib.hid hb
                have HBW := Lib.hid hbW
                have KSg := Lib.hid (fun W (hb : Below wr.heap.size wr W) => signQ (qx.below hb) (by omega) (by omega))
                have KCm : Hid (∀ W b v, Below wr.heap.size wr W → OwQ W b v ((1 : Nat) : Rat) → Calls Tryz.prog 35 #[rv s0 A4 n4 c4 B4 m4 d4, v] W fun e w' => e = .returned (.int .i64 (sgnQ (AC c.nm k - 1))) ∧ Below W.heap.size W w') := fun W b v hb hv => cmpQ (qd.below hb) (hv.rq (L := M) (Sz.one (by omega))) (by omega) (by omega)
                clear u0 u1 u2 rt2 qx hown r0 qd hb hbW hb1r hb2r
                cases hLk : LV k
                · rw [hLk] at mt
                  by_cases hX0 : X k = 0
                  · have ez : sgnQ (X k) = 0 := sgnQ_zero.2 hX0
                    rw [ez] at KSg
                    have hokk : (LV k = true → AC c.nm k = 1) ∧ (LV k = false → X k = 0) := ⟨fun h => by (rw [hLk] at h; cases h), fun _ => hX0⟩
                    have HOK := Lib.hid hokk
                    clear hLk hX0 ez hokk
                    have y0 := fun y : Sub wr => y.cell ux0
                    have y1 := fun y : Sub wr => y.cell ux1
                    have y2 := fun y : Sub wr => y.cell ux2
                    go_wp2
                    ((refine wp_region_quiet_bel (by kernel_rfl) (by kernel_rfl) ?_); (repeat (go_big_quiet_step ((go_at_call 24; with_reducible exact Calls.quiet_bel (KSg.out _ (Sub.bel _)))))); (refine wpQuiet_nil ?_); rintro w7 ⟨⟨_, hb7⟩, rfl⟩; (try dsimp only))
                    all_goals
                      have hbn : Below wr.heap.size wr w7 := (by have z0 := Below.size hb7; (try simp only [World.size_alloc, World.size_setCell, World.size_drew, size_drewN'] at z0 ⊢; skip); repeat' (first | (with_reducible exact Below.refl _ _) | (with_reducible assumption) | (with_reducible refine Below.alloc ?_ ?_ _) | (with_reducible refine Below.drew ?_) | (with_reducible refine below_drewN ?_ _) | (with_reducible refine Below.setCell ?_ ?_ _) | (with_reducible refine Below.trans ?_ (Below.mono (by with_reducible assumption) ?_)) | omega | (simp only [World.size_alloc, World.size_setCell, World.size_drew, size_drewN']; omega) | go_size))
                      have HBn := Lib.hid (HB.out.trans (hbn.mono (by omega)))
                      clear hbn
                      go_wp2
                      go_roundw
                      case rel =>
                        refine ⟨k + 1, by omega, by go_num, fun s hs => ?_, HBn.out⟩
                        by_cases e : s = k
                        · rw [e]; exact HOK.out
                        · exact HAll.out s (by omega)
                      case measure => simp [intOf]; omega
                  · obtain ⟨z, hz⟩ : ∃ z, z = sgnQ (X k) := ⟨_, rfl⟩
                    have ez : (z != 0) = true := by rw [hz]; exact sgn_ne hX0
                    rw [← hz] at KSg
                    have HNO := Lib.hid (HN.out k hlt (fun h => hX0 (h.2 hLk)))
                    clear hLk hX0 hz
                    have y0 := fun y : Sub wr => y.cell ux0
                    have y1 := fun y : Sub wr => y.cell ux1
                    have y2 := fun y : Sub wr => y.cell ux2
                    go_wp2
                    ((refine wp_region_quiet_bel (by kernel_rfl) (by kernel_rfl) ?_); (repeat (go_big_quiet_step ((go_at_call 24; with_reducible exact Calls.quiet_bel (KSg.out _ (Sub.bel _)))))); (refine wpQuiet_nil ?_); rintro w7 ⟨⟨_, hb7⟩, rfl⟩; (try dsimp only))
                    all_goals
                      have hbn : Below wr.heap.size wr w7 := (by have z0 := Below.size hb7; (try simp only [World.size_alloc, World.size_setCell, World.size_drew, size_drewN'] at z0 ⊢; skip); repeat' (first | (with_reducible exact Below.refl _ _) | (with_reducible assumption) | (with_reducible refine Below.alloc ?_ ?_ _) | (with_reducible refine Below.drew ?_) | (with_reducible refine below_drewN ?_ _) | (with_reducible refine Below.setCell ?_ ?_ _) | (with_reducible refine Below.trans ?_ (Below.mono (by with_reducible assumption) ?_)) | omega | (simp only [World.size_alloc, World.size_setCell, World.size_drew, size_drewN']; omega) | go_size))
                      have HBn := Lib.hid (HBW.out.trans (hbn.mono (by omega)))
                      clear hbn
                      go_wp2
                      go_ret2
                      exact ⟨by rw [HNO.out, errM_0]; rfl, HBn.out⟩
                · rw [hLk] at mt
                  by_cases hX0 : AC c.nm k = 1
                  · have ez : sgnQ (AC c.nm k - 1) = 0 := by rw [hX0]; decide +kernel
                    rw [ez] at KCm
                    have hokk : (LV k = true → AC c.nm k = 1) ∧ (LV k = false → X k = 0) := ⟨fun _ => hX0, fun h => by (rw [hLk] at h; cases h)⟩
                    have HOK := Lib.hid hokk
                    clear hLk hX0 ez hokk
                    go_wp2
                    (refine wp_region_held_drew (S := (fun W => W.cell? ⟨w2.heap.size, k * 3, none⟩ = some (.bool s0) ∧ W.cell? ⟨w2.heap.size, k * 3 + 1, none⟩ = some (.slice A4 n4 c4) ∧ W.cell? ⟨w2.heap.size, k * 3 + 2, none⟩ = some (.slice B4 m4 d4))) (by kernel_rfl) ?_ (fun hHeld => ?_); focus ((try dsimp only); (first | done | go_keep)))
                    (refine wpAnyH_take (i := 0) (oi := { dst := some 89, op := _, type := _, pos := _, after := _, guard := _ }) (v := ?_) rfl (by kernel_rfl) (by kernel_rfl) (by kernel_rfl) (fun _ _ _ h => h) (Or.inl ⟨by kernel_rfl, ?_⟩) (by assumption) ?_; rotate_left; (focus (intro w hSw; (try dsimp only at hSw); go_simp; (try with_reducible rfl))); (try simp only [Act.put, List.setIfInBounds_toArray, List.set_cons_zero, List.set_cons_succ]))
                    (refine wpAnyH_take (i := 1) (oi := { dst := some 90, op := _, type := _, pos := _, after := _, guard := _ }) (v := ?_) rfl (by kernel_rfl) (by kernel_rfl) (by kernel_rfl) (fun _ _ _ h => h) (Or.inl ⟨by kernel_rfl, ?_⟩) (by assumption) ?_; rotate_left; (focus (intro w hSw; (try dsimp only at hSw); go_simp; (try with_reducible rfl))); (try simp only [Act.put, List.setIfInBounds_toArray, List.set_cons_zero, List.set_cons_succ]))
                    (refine wpAnyH_take (i := 2) (oi := { dst := some 91, op := _, type := _, pos := _, after := _, guard := _ }) (v := ?_) rfl (by kernel_rfl) (by kernel_rfl) (by kernel_rfl) (fun _ _ _ h => h) (Or.inl ⟨by kernel_rfl, ?_⟩) (by assumption) ?_; rotate_left; (focus (intro w hSw; (try dsimp only at hSw); go_simp; (try with_reducible rfl))); (try simp only [Act.put, List.setIfInBounds_toArray, List.set_cons_zero, List.set_cons_succ]))
                    (refine wpAnyH_take (i := 3) (oi := { dst := some 92, op := _, type := _, pos := _, after := _, guard := _ }) (v := ?_) rfl (by kernel_rfl) (by kernel_rfl) (by kernel_rfl) (fun _ _ _ h => h) (Or.inl ⟨by kernel_rfl, ?_⟩) (by assumption) ?_; rotate_left; (focus (intro w hSw; (try dsimp only at hSw); go_simp; (try with_reducible rfl))); (try simp only [Act.put, List.setIfInBounds_toArray, List.set_cons_zero, List.set_cons_succ]))
                    (refine wpAnyH_take (i := 4) (oi := { dst := some 93, op := _, type := _, pos := _, after := _, guard := _ }) (v := ?_) rfl (by kernel_rfl) (by kernel_rfl) (by kernel_rfl) (fun _ _ _ h => h) (Or.inl ⟨by kernel_rfl, ?_⟩) (by assumption) ?_; rotate_left; (focus (intro w hSw; (try dsimp only at hSw); go_simp; (try with_reducible rfl))); (try simp only [Act.put, List.setIfInBounds_toArray, List.set_cons_zero, List.set_cons_succ]))
                    (refine wpAnyH_take (i := 5) (oi := { dst := some 94, op := _, type := _, pos := _, after := _, guard := _ }) (v := ?_) rfl (by kernel_rfl) (by kernel_rfl) (by kernel_rfl) (fun _ _ _ h => h) (Or.inl ⟨by kernel_rfl, ?_⟩) (by assumption) ?_; rotate_left; (focus (intro w hSw; (try dsimp only at hSw); go_simp; (try with_reducible rfl))); (try simp only [Act.put, List.setIfInBounds_toArray, List.set_cons_zero, List.set_cons_succ]))
                    (refine wpAnyH_ready (rs := [6]) (by kernel_rfl) (by simp) ?_; refine AllReadyH.cons (o := { dst := some 95, op := _, type := _, pos := _, after := _, guard := _ }) rfl (fun K hK => ?_) AllReadyH.nil; go_simp)
                    go_wp2_with (first | ((go_at_call 28; (with_reducible refine (K0.out _).mono ?_); rintro e w7 ⟨⟨v7, rfl, own7⟩, hb7⟩; have hb7z := Below.size hb7; (try simp only [World.size_alloc, World.size_setCell, World.size_drew] at hb7z); have hb7c0 := fun o => below_at hb7 (w2.heap.size) o (by first | omega | (simp only [World.size_alloc, World.size_setCell, World.size_drew]; omega)); have hb7f0 := fun o => below_fr hb7 (w2.heap.size) o (by first | omega | (simp only [World.size_alloc, World.size_setCell, World.size_drew]; omega)); have hb7l0 : w2.heap.size < (w7).heap.size := (by omega)); obtain ⟨s9, A9, n9, c9, B9, m9, d9, rfl⟩ := own7.form) | fail)
                    (refine hK.out _ _ ?_ (fun hHeld2 => ?_); (focus ((try dsimp only); (first | done | go_keep))); clear hK K hHeld; revert hHeld2; intro hHeld; (try simp only [Act.put, List.setIfInBounds_toArray, List.set_cons_zero, List.set_cons_succ]))
                    (refine wpAnyH_ready (rs := [7]) (by kernel_rfl) (by simp) ?_; refine AllReadyH.cons (o := { dst := some 96, op := _, type := _, pos := _, after := _, guard := _ }) rfl (fun K hK => ?_) AllReadyH.nil; go_simp)
                    go_wp2_with (first | ((go_at_call 35; (with_reducible refine (KCm.out _ _ _ (by have z0 := Below.size hb7; (try simp only [World.size_alloc, World.size_setCell, World.size_drew, size_drewN'] at z0 ⊢; skip); repeat' (first | (with_reducible exact Below.refl _ _) | (with_reducible assumption) | (with_reducible refine Below.alloc ?_ ?_ _) | (with_reducible refine Below.drew ?_) | (with_reducible refine below_drewN ?_ _) | (with_reducible refine Below.setCell ?_ ?_ _) | (with_reducible refine Below.trans ?_ (Below.mono (by with_reducible assumption) ?_)) | omega | (simp only [World.size_alloc, World.size_setCell, World.size_drew, size_drewN']; omega) | go_size)) own7).mono ?_); rintro e w8 ⟨rfl, hb8⟩; have hb8z := Below.size hb8; (try simp only [World.size_alloc, World.size_setCell, World.size_drew] at hb8z); have hb8c0 := fun o => below_at hb8 (w2.heap.size) o (by first | omega | (simp only [World.size_alloc, World.size_setCell, World.size_drew]; omega)); have hb8f0 := fun o => below_fr hb8 (w2.heap.size) o (by first | omega | (simp only [World.size_alloc, World.size_setCell, World.size_drew]; omega)); have hb8l0 : w2.heap.size < (w8).heap.size := (by omega))) | fail)
                    (refine hK.out _ _ ?_ (fun hHeld2 => ?_); (focus ((try dsimp only); (first | done | go_keep))); clear hK K hHeld; revert hHeld2; intro hHeld; (try simp only [Act.put, List.setIfInBounds_toArray, List.set_cons_zero, List.set_cons_succ]))
                    (refine wpAnyH_take (i := 8) (oi := { dst := some 97, op := _, type := _, pos := _, after := _, guard := _ }) (v := ?_) rfl (by kernel_rfl) (by kernel_rfl) (by kernel_rfl) (fun _ _ _ h => h) (Or.inl ⟨by kernel_rfl, ?_⟩) (by assumption) ?_; rotate_left; (focus (intro w hSw; (try dsimp only at hSw); go_simp; (try with_reducible rfl))); (try simp only [Act.put, List.setIfInBounds_toArray, List.set_cons_zero, List.set_cons_succ]))
                    (refine wpAnyH_take (i := 9) (oi := { dst := some 98, op := _, type := _, pos := _, after := _, guard := _ }) (v := ?_) rfl (by kernel_rfl) (by kernel_rfl) (by kernel_rfl) (fun _ _ _ h => h) (Or.inl ⟨by kernel_rfl, ?_⟩) (by assumption) ?_; rotate_left; (focus (intro w hSw; (try dsimp only at hSw); go_simp; (try with_reducible rfl))); (try simp only [Act.put, List.setIfInBounds_toArray, List.set_cons_zero, List.set_cons_succ]))
                    (refine wpAnyH_take (i := 10) (oi := { dst := some 99, op := _, type := _, pos := _, after := _, guard := _ }) (v := ?_) rfl (by kernel_rfl) (by kernel_rfl) (by kernel_rfl) (fun _ _ _ h => h) (Or.inl ⟨by kernel_rfl, ?_⟩) (by assumption) ?_; rotate_left; (focus (intro w hSw; (try dsimp only at hSw); go_simp; (try with_reducible rfl))); (try simp only [Act.put, List.setIfInBounds_toArray, List.set_cons_zero, List.set_cons_succ]))
                    (refine wpAnyH_take (i := 11) (oi := { dst := some 100, op := _, type := _, pos := _, after := _, guard := _ }) (v := ?_) rfl (by kernel_rfl) (by kernel_rfl) (by kernel_rfl) (fun _ _ _ h => h) (Or.inl ⟨by kernel_rfl, ?_⟩) (by assumption) ?_; rotate_left; (focus (intro w hSw; (try dsimp only at hSw); go_simp; (try with_reducible rfl))); (try simp only [Act.put, List.setIfInBounds_toArray, List.set_cons_zero, List.set_cons_succ]))
                    (refine wpAnyH_take (i := 12) (oi := { dst := some 101, op := _, type := _, pos := _, after := _, guard := _ }) (v := ?_) rfl (by kernel_rfl) (by kernel_rfl) (by kernel_rfl) (fun _ _ _ h => h) (Or.inl ⟨by kernel_rfl, ?_⟩) (by assumption) ?_; rotate_left; (focus (intro w hSw; (try dsimp only at hSw); go_simp; (try with_reducible rfl))); (try simp only [Act.put, List.setIfInBounds_toArray, List.set_cons_zero, List.set_cons_succ]))
                    (refine wpAnyH_take (i := 13) (oi := { dst := some 102, op := _, type := _, pos := _, after := _, guard := _ }) (v := ?_) rfl (by kernel_rfl) (by kernel_rfl) (by kernel_rfl) (fun _ _ _ h => h) (Or.inl ⟨by kernel_rfl, ?_⟩) (by assumption) ?_; rotate_left; (focus (intro w hSw; (try dsimp only at hSw); go_simp; (try with_reducible rfl))); (try simp only [Act.put, List.setIfInBounds_toArray, List.set_cons_zero, List.set_cons_succ]))
                    (refine wpAnyH_take (i := 14) (oi := { dst := some 103, op := _, type := _, pos := _, after := _, guard := _ }) (v := undef) rfl (by kernel_rfl) (by kernel_rfl) (by kernel_rfl) (fun _ _ _ h => h) (Or.inr ⟨by kernel_rfl, rfl⟩) (by assumption) ?_; (try simp only [Act.put, List.setIfInBounds_toArray, List.set_cons_zero, List.set_cons_succ]))
                    (refine wpAnyH_take (i := 15) (oi := { dst := some 104, op := _, type := _, pos := _, after := _, guard := _ }) (v := undef) rfl (by kernel_rfl) (by kernel_rfl) (by kernel_rfl) (fun _ _ _ h => h) (Or.inr ⟨by kernel_rfl, rfl⟩) (by assumption) ?_; (try simp only [Act.put, List.setIfInBounds_toArray, List.set_cons_zero, List.set_cons_succ]))
                    (refine wpAnyH_take (i := 16) (oi := { dst := some 105, op := _, type := _, pos := _, after := _, guard := _ }) (v := undef) rfl (by kernel_rfl) (by kernel_rfl) (by kernel_rfl) (fun _ _ _ h => h) (Or.inr ⟨by kernel_rfl, rfl⟩) (by assumption) ?_; (try simp only [Act.put, List.setIfInBounds_toArray, List.set_cons_zero, List.set_cons_succ]))
                    (refine wpAnyH_take (i := 17) (oi := { dst := some 106, op := _, type := _, pos := _, after := _, guard := _ }) (v := undef) rfl (by kernel_rfl) (by kernel_rfl) (by kernel_rfl) (fun _ _ _ h => h) (Or.inr ⟨by kernel_rfl, rfl⟩) (by assumption) ?_; (try simp only [Act.put, List.setIfInBounds_toArray, List.set_cons_zero, List.set_cons_succ]))
                    (refine wpAnyH_take (i := 18) (oi := { dst := some 107, op := _, type := _, pos := _, after := _, guard := _ }) (v := undef) rfl (by kernel_rfl) (by kernel_rfl) (by kernel_rfl) (fun _ _ _ h => h) (Or.inr ⟨by kernel_rfl, rfl⟩) (by assumption) ?_; (try simp only [Act.put, List.setIfInBounds_toArray, List.set_cons_zero, List.set_cons_succ]))
                    (refine wpAnyH_take (i := 19) (oi := { dst := some 108, op := _, type := _, pos := _, after := _, guard := _ }) (v := undef) rfl (by kernel_rfl) (by kernel_rfl) (by kernel_rfl) (fun _ _ _ h => h) (Or.inr ⟨by kernel_rfl, rfl⟩) (by assumption) ?_; (try simp only [Act.put, List.setIfInBounds_toArray, List.set_cons_zero, List.set_cons_succ]))
                    (refine wpAnyH_take (i := 20) (oi := { dst := some 109, op := _, type := _, pos := _, after := _, guard := _ }) (v := ?_) rfl (by kernel_rfl) (by kernel_rfl) (by kernel_rfl) (fun _ _ _ h => h) (Or.inl ⟨by kernel_rfl, ?_⟩) (by assumption) ?_; rotate_left; (focus (intro w hSw; (try dsimp only at hSw); go_simp; (try with_reducible rfl))); (try simp only [Act.put, List.setIfInBounds_toArray, List.set_cons_zero, List.set_cons_succ]))
                    (refine wpAnyH_take (i := 21) (oi := { dst := some 110, op := _, type := _, pos := _, after := _, guard := _ }) (v := ?_) rfl (by kernel_rfl) (by kernel_rfl) (by kernel_rfl) (fun _ _ _ h => h) (Or.inl ⟨by kernel_rfl, ?_⟩) (by assumption) ?_; rotate_left; (focus (intro w hSw; (try dsimp only at hSw); go_simp; (try with_reducible rfl))); (try simp only [Act.put, List.setIfInBounds_toArray, List.set_cons_zero, List.set_cons_succ]))
                    (refine wpAnyH_done (by kernel_rfl) ?_ _; clear hHeld)
                    all_goals
                      have hbn : Below wr.heap.size wr w8 := (by have z0 := Below.size hb7; have z1 := Below.size hb8; (try simp only [World.size_alloc, World.size_setCell, World.size_drew, size_drewN'] at z0 z1 ⊢; skip); repeat' (first | (with_reducible exact Below.refl _ _) | (with_reducible assumption) | (with_reducible refine Below.alloc ?_ ?_ _) | (with_reducible refine Below.drew ?_) | (with_reducible refine below_drewN ?_ _) | (with_reducible refine Below.setCell ?_ ?_ _) | (with_reducible refine Below.trans ?_ (Below.mono (by with_reducible assumption) ?_)) | omega | (simp only [World.size_alloc, World.size_setCell, World.size_drew, size_drewN']; omega) | go_size))
                      have HBn := Lib.hid (HB.out.trans (hbn.mono (by omega)))
                      clear hbn
                      go_wp2
                      go_roundw
                      case rel =>
                        refine ⟨k + 1, by omega, by go_num, fun s hs => ?_, HBn.out⟩
                        by_cases e : s = k
                        · rw [e]; exact HOK.out
                        · exact HAll.out s (by omega)
                      case measure => simp [intOf]; omega
                  · obtain ⟨z, hz⟩ : ∃ z, z = sgnQ (AC c.nm k - 1) := ⟨_, rfl⟩
                    have ez : (z != 0) = true := by rw [hz]; exact sgn_ne (fun e => hX0 (by grind))
                    rw [← hz] at KCm
                    have HNO := Lib.hid (HN.out k hlt (fun h => hX0 (h.1 hLk)))
                    clear hLk hX0 hz
                    go_wp2
                    (refine wp_region_held_drew (S := (fun W => W.cell? ⟨w2.heap.size, k * 3, none⟩ = some (.bool s0) ∧ W.cell? ⟨w2.heap.size, k * 3 + 1, none⟩ = some (.slice A4 n4 c4) ∧ W.cell? ⟨w2.heap.size, k * 3 + 2, none⟩ = some (.slice B4 m4 d4))) (by kernel_rfl) ?_ (fun hHeld => ?_); focus ((try dsimp only); (first | done | go_keep)))
                    (refine wpAnyH_take (i := 0) (oi := { dst := some 89, op := _, type := _, pos := _, after := _, guard := _ }) (v := ?_) rfl (by kernel_rfl) (by kernel_rfl) (by kernel_rfl) (fun _ _ _ h => h) (Or.inl ⟨by kernel_rfl, ?_⟩) (by assumption) ?_; rotate_left; (focus (intro w hSw; (try dsimp only at hSw); go_simp; (try with_reducible rfl))); (try simp only [Act.put, List.setIfInBounds_toArray, List.set_cons_zero, List.set_cons_succ]))
                    (refine wpAnyH_take (i := 1) (oi := { dst := some 90, op := _, type := _, pos := _, after := _, guard := _ }) (v := ?_) rfl (by kernel_rfl) (by kernel_rfl) (by kernel_rfl) (fun _ _ _ h => h) (Or.inl ⟨by kernel_rfl, ?_⟩) (by assumption) ?_; rotate_left; (focus (intro w hSw; (try dsimp only at hSw); go_simp; (try with_reducible rfl))); (try simp only [Act.put, List.setIfInBounds_toArray, List.set_cons_zero, List.set_cons_succ]))
                    (refine wpAnyH_take (i := 2) (oi := { dst := some 91, op := _, type := _, pos := _, after := _, guard := _ }) (v := ?_) rfl (by kernel_rfl) (by kernel_rfl) (by kernel_rfl) (fun _ _ _ h => h) (Or.inl ⟨by kernel_rfl, ?_⟩) (by assumption) ?_; rotate_left; (focus (intro w hSw; (try dsimp only at hSw); go_simp; (try with_reducible rfl))); (try simp only [Act.put, List.setIfInBounds_toArray, List.set_cons_zero, List.set_cons_succ]))
                    (refine wpAnyH_take (i := 3) (oi := { dst := some 92, op := _, type := _, pos := _, after := _, guard := _ }) (v := ?_) rfl (by kernel_rfl) (by kernel_rfl) (by kernel_rfl) (fun _ _ _ h => h) (Or.inl ⟨by kernel_rfl, ?_⟩) (by assumption) ?_; rotate_left; (focus (intro w hSw; (try dsimp only at hSw); go_simp; (try with_reducible rfl))); (try simp only [Act.put, List.setIfInBounds_toArray, List.set_cons_zero, List.set_cons_succ]))
                    (refine wpAnyH_take (i := 4) (oi := { dst := some 93, op := _, type := _, pos := _, after := _, guard := _ }) (v := ?_) rfl (by kernel_rfl) (by kernel_rfl) (by kernel_rfl) (fun _ _ _ h => h) (Or.inl ⟨by kernel_rfl, ?_⟩) (by assumption) ?_; rotate_left; (focus (intro w hSw; (try dsimp only at hSw); go_simp; (try with_reducible rfl))); (try simp only [Act.put, List.setIfInBounds_toArray, List.set_cons_zero, List.set_cons_succ]))
                    (refine wpAnyH_take (i := 5) (oi := { dst := some 94, op := _, type := _, pos := _, after := _, guard := _ }) (v := ?_) rfl (by kernel_rfl) (by kernel_rfl) (by kernel_rfl) (fun _ _ _ h => h) (Or.inl ⟨by kernel_rfl, ?_⟩) (by assumption) ?_; rotate_left; (focus (intro w hSw; (try dsimp only at hSw); go_simp; (try with_reducible rfl))); (try simp only [Act.put, List.setIfInBounds_toArray, List.set_cons_zero, List.set_cons_succ]))
                    (refine wpAnyH_ready (rs := [6]) (by kernel_rfl) (by simp) ?_; refine AllReadyH.cons (o := { dst := some 95, op := _, type := _, pos := _, after := _, guard := _ }) rfl (fun K hK => ?_) AllReadyH.nil; go_simp)
                    go_wp2_with (first | ((go_at_call 28; (with_reducible refine (K0.out _).mono ?_); rintro e w7 ⟨⟨v7, rfl, own7⟩, hb7⟩; have hb7z := Below.size hb7; (try simp only [World.size_alloc, World.size_setCell, World.size_drew] at hb7z); have hb7c0 := fun o => below_at hb7 (w2.heap.size) o (by first | omega | (simp only [World.size_alloc, World.size_setCell, World.size_drew]; omega)); have hb7f0 := fun o => below_fr hb7 (w2.heap.size) o (by first | omega | (simp only [World.size_alloc, World.size_setCell, World.size_drew]; omega)); have hb7l0 : w2.heap.size < (w7).heap.size := (by omega)); obtain ⟨s9, A9, n9, c9, B9, m9, d9, rfl⟩ := own7.form) | fail)
                    (refine hK.out _ _ ?_ (fun hHeld2 => ?_); (focus ((try dsimp only); (first | done | go_keep))); clear hK K hHeld; revert hHeld2; intro hHeld; (try simp only [Act.put, List.setIfInBounds_toArray, List.set_cons_zero, List.set_cons_succ]))
                    (refine wpAnyH_ready (rs := [7]) (by kernel_rfl) (by simp) ?_; refine AllReadyH.cons (o := { dst := some 96, op := _, type := _, pos := _, after := _, guard := _ }) rfl (fun K hK => ?_) AllReadyH.nil; go_simp)
                    go_wp2_with (first | ((go_at_call 35; (with_reducible refine (KCm.out _ _ _ (by have z0 := Below.size hb7; (try simp only [World.size_alloc, World.size_setCell, World.size_drew, size_drewN'] at z0 ⊢; skip); repeat' (first | (with_reducible exact Below.refl _ _) | (with_reducible assumption) | (with_reducible refine Below.alloc ?_ ?_ _) | (with_reducible refine Below.drew ?_) | (with_reducible refine below_drewN ?_ _) | (with_reducible refine Below.setCell ?_ ?_ _) | (with_reducible refine Below.trans ?_ (Below.mono (by with_reducible assumption) ?_)) | omega | (simp only [World.size_alloc, World.size_setCell, World.size_drew, size_drewN']; omega) | go_size)) own7).mono ?_); rintro e w8 ⟨rfl, hb8⟩; have hb8z := Below.size hb8; (try simp only [World.size_alloc, World.size_setCell, World.size_drew] at hb8z); have hb8c0 := fun o => below_at hb8 (w2.heap.size) o (by first | omega | (simp only [World.size_alloc, World.size_setCell, World.size_drew]; omega)); have hb8f0 := fun o => below_fr hb8 (w2.heap.size) o (by first | omega | (simp only [World.size_alloc, World.size_setCell, World.size_drew]; omega)); have hb8l0 : w2.heap.size < (w8).heap.size := (by omega))) | fail)
                    (refine hK.out _ _ ?_ (fun hHeld2 => ?_); (focus ((try dsimp only); (first | done | go_keep))); clear hK K hHeld; revert hHeld2; intro hHeld; (try simp only [Act.put, List.setIfInBounds_toArray, List.set_cons_zero, List.set_cons_succ]))
                    (refine wpAnyH_take (i := 8) (oi := { dst := some 97, op := _, type := _, pos := _, after := _, guard := _ }) (v := ?_) rfl (by kernel_rfl) (by kernel_rfl) (by kernel_rfl) (fun _ _ _ h => h) (Or.inl ⟨by kernel_rfl, ?_⟩) (by assumption) ?_; rotate_left; (focus (intro w hSw; (try dsimp only at hSw); go_simp; (try with_reducible rfl))); (try simp only [Act.put, List.setIfInBounds_toArray, List.set_cons_zero, List.set_cons_succ]))
                    (refine wpAnyH_take (i := 9) (oi := { dst := some 98, op := _, type := _, pos := _, after := _, guard := _ }) (v := ?_) rfl (by kernel_rfl) (by kernel_rfl) (by kernel_rfl) (fun _ _ _ h => h) (Or.inl ⟨by kernel_rfl, ?_⟩) (by assumption) ?_; rotate_left; (focus (intro w hSw; (try dsimp only at hSw); go_simp; (try with_reducible rfl))); (try simp only [Act.put, List.setIfInBounds_toArray, List.set_cons_zero, List.set_cons_succ]))
                    (refine wpAnyH_take (i := 10) (oi := { dst := some 99, op := _, type := _, pos := _, after := _, guard := _ }) (v := ?_) rfl (by kernel_rfl) (by kernel_rfl) (by kernel_rfl) (fun _ _ _ h => h) (Or.inl ⟨by kernel_rfl, ?_⟩) (by assumption) ?_; rotate_left; (focus (intro w hSw; (try dsimp only at hSw); go_simp; (try with_reducible rfl))); (try simp only [Act.put, List.setIfInBounds_toArray, List.set_cons_zero, List.set_cons_succ]))
                    (refine wpAnyH_take (i := 11) (oi := { dst := some 100, op := _, type := _, pos := _, after := _, guard := _ }) (v := undef) rfl (by kernel_rfl) (by kernel_rfl) (by kernel_rfl) (fun _ _ _ h => h) (Or.inr ⟨by kernel_rfl, rfl⟩) (by assumption) ?_; (try simp only [Act.put, List.setIfInBounds_toArray, List.set_cons_zero, List.set_cons_succ]))
                    (refine wpAnyH_take (i := 12) (oi := { dst := some 101, op := _, type := _, pos := _, after := _, guard := _ }) (v := undef) rfl (by kernel_rfl) (by kernel_rfl) (by kernel_rfl) (fun _ _ _ h => h) (Or.inr ⟨by kernel_rfl, rfl⟩) (by assumption) ?_; (try simp only [Act.put, List.setIfInBounds_toArray, List.set_cons_zero, List.set_cons_succ]))
                    (refine wpAnyH_take (i := 13) (oi := { dst := some 102, op := _, type := _, pos := _, after := _, guard := _ }) (v := undef) rfl (by kernel_rfl) (by kernel_rfl) (by kernel_rfl) (fun _ _ _ h => h) (Or.inr ⟨by kernel_rfl, rfl⟩) (by assumption) ?_; (try simp only [Act.put, List.setIfInBounds_toArray, List.set_cons_zero, List.set_cons_succ]))
                    (refine wpAnyH_take (i := 14) (oi := { dst := some 103, op := _, type := _, pos := _, after := _, guard := _ }) (v := undef) rfl (by kernel_rfl) (by kernel_rfl) (by kernel_rfl) (fun _ _ _ h => h) (Or.inr ⟨by kernel_rfl, rfl⟩) (by assumption) ?_; (try simp only [Act.put, List.setIfInBounds_toArray, List.set_cons_zero, List.set_cons_succ]))
                    (refine wpAnyH_take (i := 15) (oi := { dst := some 104, op := _, type := _, pos := _, after := _, guard := _ }) (v := undef) rfl (by kernel_rfl) (by kernel_rfl) (by kernel_rfl) (fun _ _ _ h => h) (Or.inr ⟨by kernel_rfl, rfl⟩) (by assumption) ?_; (try simp only [Act.put, List.setIfInBounds_toArray, List.set_cons_zero, List.set_cons_succ]))
                    (refine wpAnyH_take (i := 16) (oi := { dst := some 105, op := _, type := _, pos := _, after := _, guard := _ }) (v := undef) rfl (by kernel_rfl) (by kernel_rfl) (by kernel_rfl) (fun _ _ _ h => h) (Or.inr ⟨by kernel_rfl, rfl⟩) (by assumption) ?_; (try simp only [Act.put, List.setIfInBounds_toArray, List.set_cons_zero, List.set_cons_succ]))
                    (refine wpAnyH_take (i := 17) (oi := { dst := some 106, op := _, type := _, pos := _, after := _, guard := _ }) (v := undef) rfl (by kernel_rfl) (by kernel_rfl) (by kernel_rfl) (fun _ _ _ h => h) (Or.inr ⟨by kernel_rfl, rfl⟩) (by assumption) ?_; (try simp only [Act.put, List.setIfInBounds_toArray, List.set_cons_zero, List.set_cons_succ]))
                    (refine wpAnyH_take (i := 18) (oi := { dst := some 107, op := _, type := _, pos := _, after := _, guard := _ }) (v := undef) rfl (by kernel_rfl) (by kernel_rfl) (by kernel_rfl) (fun _ _ _ h => h) (Or.inr ⟨by kernel_rfl, rfl⟩) (by assumption) ?_; (try simp only [Act.put, List.setIfInBounds_toArray, List.set_cons_zero, List.set_cons_succ]))
                    (refine wpAnyH_take (i := 19) (oi := { dst := some 108, op := _, type := _, pos := _, after := _, guard := _ }) (v := undef) rfl (by kernel_rfl) (by kernel_rfl) (by kernel_rfl) (fun _ _ _ h => h) (Or.inr ⟨by kernel_rfl, rfl⟩) (by assumption) ?_; (try simp only [Act.put, List.setIfInBounds_toArray, List.set_cons_zero, List.set_cons_succ]))
                    (refine wpAnyH_take (i := 20) (oi := { dst := some 109, op := _, type := _, pos := _, after := _, guard := _ }) (v := undef) rfl (by kernel_rfl) (by kernel_rfl) (by kernel_rfl) (fun _ _ _ h => h) (Or.inr ⟨by kernel_rfl, rfl⟩) (by assumption) ?_; (try simp only [Act.put, List.setIfInBounds_toArray, List.set_cons_zero, List.set_cons_succ]))
                    (refine wpAnyH_take (i := 21) (oi := { dst := some 110, op := _, type := _, pos := _, after := _, guard := _ }) (v := ?_) rfl (by kernel_rfl) (by kernel_rfl) (by kernel_rfl) (fun _ _ _ h => h) (Or.inl ⟨by kernel_rfl, ?_⟩) (by assumption) ?_; rotate_left; (focus (intro w hSw; (try dsimp only at hSw); go_simp; (try with_reducible rfl))); (try simp only [Act.put, List.setIfInBounds_toArray, List.set_cons_zero, List.set_cons_succ]))
                    (refine wpAnyH_done (by kernel_rfl) ?_ _; clear hHeld)
                    all_goals
                      have hbn : Below wr.heap.size wr w8 := (by have z0 := Below.size hb7; have z1 := Below.size hb8; (try simp only [World.size_alloc, World.size_setCell, World.size_drew, size_drewN'] at z0 z1 ⊢; skip); repeat' (first | (with_reducible exact Below.refl _ _) | (with_reducible assumption) | (with_reducible refine Below.alloc ?_ ?_ _) | (with_reducible refine Below.drew ?_) | (with_reducible refine below_drewN ?_ _) | (with_reducible refine Below.setCell ?_ ?_ _) | (with_reducible refine Below.trans ?_ (Below.mono (by with_reducible assumption) ?_)) | omega | (simp only [World.size_alloc, World.size_setCell, World.size_drew, size_drewN']; omega) | go_size))
                      have HBn := Lib.hid (HBW.out.trans (hbn.mono (by omega)))
                      clear hbn
                      go_wp2
                      go_ret2
                      exact ⟨by rw [HNO.out, errM_0]; rfl, HBn.out⟩
              · have hkn : k = c.nd := by omega
                subst hkn
                have HT := Lib.hid (HY.out HAll.out)
                go_wp2
                go_ret2
                exact ⟨by rw [HT.out, errM_0]; rfl, hbW⟩
    · have HX := Lib.hid (Chn.codeX_n (R := R) h0 hnn)
      have e1 : ((n : Int) != c.st) = true := by rw [hst]; simp; omega
      clear h hS hv hz hfz ok hst KC hs
      go_enter Tryz.func21, Tryz.ntmps21
      (go_wp2_with fail; (with_reducible refine (K1.out _ (by (skip); repeat' (first | (with_reducible exact Below.refl _ _) | (with_reducible assumption) | (with_reducible refine Below.alloc ?_ ?_ _) | (with_reducible refine Below.drew ?_) | (with_reducible refine below_drewN ?_ _) | (with_reducible refine Below.setCell ?_ ?_ _) | (with_reducible refine Below.trans ?_ (Below.mono (by with_reducible assumption) ?_)) | omega | (simp only [World.size_alloc, World.size_setCell, World.size_drew, size_drewN']; omega) | go_size))).mono ?_); rintro e w1 ⟨hR, hb1⟩; have hb1z := Below.size hb1; (try simp only [World.size_alloc, World.size_setCell, World.size_drew, size_drewN'] at hb1z); have hb1c0 := fun o => below_at hb1 (w.heap.size) o (by first | omega | (simp only [World.size_alloc, World.size_setCell, World.size_drew, size_drewN']; omega)); have hb1f0 := fun o => below_fr hb1 (w.heap.size) o (by first | omega | (simp only [World.size_alloc, World.size_setCell, World.size_drew, size_drewN']; omega)))
      obtain ⟨A1, c1, rfl, -⟩ := retB4_pass hR h0
      clear hR
      have hB1 := HPB.out w1 (by rw [← hW0z]; exact hb1)
      go_wp2
      go_ret2
      exact ⟨by rw [HX.out.1, HX.out.2, errM_n (by omega)]; rfl, hB1⟩
  · have HX := Lib.hid (Chn.codeX_a (n := n) (R := R) h0)
    obtain ⟨ct, hct⟩ : ∃ ct, ct = c.codeA := ⟨_, rfl⟩
    rw [← hct] at K1 h0
    have HCT := Lib.hid hct
    clear h hS hv hz hfz KC hs hct
    go_enter Tryz.func21, Tryz.ntmps21
    (go_wp2_with fail; (with_reducible refine (K1.out _ (by (skip); repeat' (first | (with_reducible exact Below.refl _ _) | (with_reducible assumption) | (with_reducible refine Below.alloc ?_ ?_ _) | (with_reducible refine Below.drew ?_) | (with_reducible refine below_drewN ?_ _) | (with_reducible refine Below.setCell ?_ ?_ _) | (with_reducible refine Below.trans ?_ (Below.mono (by with_reducible assumption) ?_)) | omega | (simp only [World.size_alloc, World.size_setCell, World.size_drew, size_drewN']; omega) | go_size))).mono ?_); rintro e w1 ⟨hR, hb1⟩; have hb1z := Below.size hb1; (try simp only [World.size_alloc, World.size_setCell, World.size_drew, size_drewN'] at hb1z); have hb1c0 := fun o => below_at hb1 (w.heap.size) o (by first | omega | (simp only [World.size_alloc, World.size_setCell, World.size_drew, size_drewN']; omega)); have hb1f0 := fun o => below_fr hb1 (w.heap.size) o (by first | omega | (simp only [World.size_alloc, World.size_setCell, World.size_drew, size_drewN']; omega)))
    obtain rfl := retB4_err hR h0
    clear hR
    have hB1 := HPB.out w1 (by rw [← hW0z]; exact hb1)
    rw [errM_n h0]
    go_wp2
    go_ret2
    exact ⟨by rw [HX.out.1, HX.out.2, ← HCT.out, errM_n h0]; rfl, hB1⟩
end Go.Proofs.YtomkdgcpmpbfhaaGreatDoor
