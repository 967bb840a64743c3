/- Contracts of functions and lemmas, used by the proofs of the given statements. No condition beyond those that each lemma names. -/
import Derived.Test.YtmebdlilbnadgaaGreatDoorStaB
import Derived.Test.YtmebdlilbnadgaaGreatDoorJLinY
namespace Go.Proofs.YtmebdlilbnadgaaGreatDoor
open Go.RowKit
set_option linter.unusedSimpArgs false
set_option linter.unusedVariables false
set_option maxRecDepth 20000
attribute [local irreducible] nv wp win plainB validR valR canR mvE chkM codeC netS sumN dsum floG
/-! ## package stationary: certain, Frequency -/
theorem Chn.codeCe_a {c : Chn} {n : Nat} {R : Nat → Rw} (h : c.codeB n R ≠ 0) : c.codeCe n R = c.codeB n R := by unfold Chn.codeCe; rw [if_pos h]
theorem Chn.codeCe_n {c : Chn} {n : Nat} {R : Nat → Rw} (h : c.codeB n R = 0) (hb : c.balB (vecQ n R) = false) : c.codeCe n R = 15 := by unfold Chn.codeCe; rw [if_neg (by omega), if_neg (by rw [hb]; simp)]
theorem Chn.codeCe_z {c : Chn} {n : Nat} {R : Nat → Rw} (h : c.codeB n R = 0) (hb : c.balB (vecQ n R) = true) : c.codeCe n R = 0 := by unfold Chn.codeCe; rw [if_neg (by omega), if_pos hb]
theorem Chn.codeCe_0 {c : Chn} {n : Nat} {R : Nat → Rw} (h : c.codeCe n R = 0) : c.codeB n R = 0 ∧ c.balB (vecQ n R) = true := by
  unfold Chn.codeCe at h
  split at h
  · contradiction
  · rename_i h1
    split at h
    · rename_i h2; exact ⟨by omega, h2⟩
    · omega
/-- what the functions of a chain and a distribution need -/
structure DistS (w : World) (AM : Option Addr) (cm : Nat) (AD : Option Addr) (cd : Nat) (c : Chn) (AV : Option Addr) (n : Nat) (R : Nat → Rw) : Prop where
  ch : ChI w w.heap.size AM cm AD cd c
  sm : SizP c
  v : RowA w w.heap.size AV n R
  big : BigS n R
  n6 : n ≤ 1000000
  fz : c.codeB n R = 0 → FzL 220000000 (vecQ n R)
section
variable {w w' : World} {AM AD AV : Option Addr} {cm cd n ca : Nat} {c : Chn} {R : Nat → Rw}
theorem DistS.below (h : DistS w AM cm AD cd c AV n R) (hb : Below w.heap.size w w') : DistS w' AM cm AD cd c AV n R := ⟨h.ch.below hb, h.sm, (h.v.below hb).up hb.size, h.big, h.n6, h.fz⟩
theorem DistS.vec (h : DistS w AM cm AD cd c AV n R) (hB : c.codeB n R = 0) : RowA w w.heap.size AV n (can (vecQ n R)) := h.v.can_ (Chn.codeB_0 hB).2.2
theorem balS_any (h : DistS w AM cm AD cd c AV n R) (hB : c.codeB n R = 0) :
    Calls Tryz.prog 61 #[cv c.st c.sr AM c.nm cm AD c.nd cd, .slice AV n ca] w fun e w' => e = .returned (.bool (c.balB (vecQ n R))) ∧ Below w.heap.size w w' := by
  obtain ⟨h0, hnn, hv0⟩ := Chn.codeB_0 hB
  have hv := h.vec hB
  have hf := h.fz hB
  subst hnn
  exact sbalanced_any h.ch (Chn.ok_iff.1 h0) h.sm hv (Nat.le_refl _) hf
theorem certain_any (h : DistS w AM cm AD cd c AV n R) :
    Calls Tryz.prog 53 #[cv c.st c.sr AM c.nm cm AD c.nd cd, .slice AV n ca] w fun e w' => e = .returned (errM (c.codeCe n R)) ∧ Below w.heap.size w w' := by
  have K1 := Lib.hid (fun W (hb : Below w.heap.size w W) => scheck_any (ca := ca) (h.below hb).ch h.sm.ch (h.below hb).v h.big h.n6)
  have HPB := Lib.hid (fun W hb => par_below (W := W) (w := w) (o := .cells #[.int .i64 c.st, .int .i64 c.sr, .slice AM c.nm cm, .slice AD c.nd cd] 25) hb)
  have HPC := Lib.hid (fun W hb => par_cells (W := W) (w := w) (a := .int .i64 c.st) (b := .int .i64 c.sr) (d := .slice AM c.nm cm) (e := .slice AD c.nd cd) (t := 25) hb)
  have hW0z : (w.alloc (.cells #[.int .i64 c.st, .int .i64 c.sr, .slice AM c.nm cm, .slice AD c.nd cd] 25)).heap.size = w.heap.size + 1 := by simp
  by_cases hB : c.codeB n R = 0
  · have K2 := Lib.hid (fun W (hb : Below w.heap.size w W) => balS_any (ca := ca) (h.below hb) hB)
    rw [hB, errM_0] at K1
    cases hb : c.balB (vecQ n R)
    · have HX := Lib.hid (Chn.codeCe_n hB hb)
      rw [hb] at K2
      clear h hB hb
      go_enter Tryz.func53, Tryz.ntmps53
      (go_wp2_with fail; (with_reducible refine (K1.out _ (by (skip); repeat' (first | (with_reducible exact Below.refl _ _) | (with_reducible assumption) | (with_reducible refine Below.alloc ?_ ?_ _) | (with_reducible refine Below.drew ?_) | (with_reducible refine below_drewN ?_ _) | (with_reducible refine Below.setCell ?_ ?_ _) | (with_reducible refine Below.trans ?_ (Below.mono (by with_reducible assumption) ?_)) | omega | (simp only [ZA, ZS, ZD, ZN]; omega) | go_size))).mono ?_); rintro e w1 ⟨rfl, hb1⟩; have hb1z := Below.size hb1; (try simp only [ZA, ZS, ZD, ZN] at hb1z); have hb1c0 := fun o => below_at hb1 (w.heap.size) o (by first | omega | (simp only [ZA, ZS, ZD, ZN]; omega)); have hb1f0 := fun o => below_fr hb1 (w.heap.size) o (by first | omega | (simp only [ZA, ZS, ZD, ZN]; omega)))
      have hB1 := HPB.out w1 (by rw [← hW0z]; exact hb1)
      (go_wp2_with fail; (with_reducible refine (K2.out _ hB1).mono ?_); rintro e w2 ⟨rfl, hb2⟩; have hb2z := Below.size hb2; (try simp only [ZA, ZS, ZD, ZN] at hb2z))
      go_wp2
      go_ret
      exact ⟨by rw [HX.out, errM_n (by omega)]; rfl, hB1.trans (hb2.mono hB1.size)⟩
    · have HX := Lib.hid (Chn.codeCe_z hB hb)
      rw [hb] at K2
      clear h hB hb
      go_enter Tryz.func53, Tryz.ntmps53
      (go_wp2_with fail; (with_reducible refine (K1.out _ (by (skip); repeat' (first | (with_reducible exact Below.refl _ _) | (with_reducible assumption) | (with_reducible refine Below.alloc ?_ ?_ _) | (with_reducible refine Below.drew ?_) | (with_reducible refine below_drewN ?_ _) | (with_reducible refine Below.setCell ?_ ?_ _) | (with_reducible refine Below.trans ?_ (Below.mono (by with_reducible assumption) ?_)) | omega | (simp only [ZA, ZS, ZD, ZN]; omega) | go_size))).mono ?_); rintro e w1 ⟨rfl, hb1⟩; have hb1z := Below.size hb1; (try simp only [ZA, ZS, ZD, ZN] at hb1z); have hb1c0 := fun o => below_at hb1 (w.heap.size) o (by first | omega | (simp only [ZA, ZS, ZD, ZN]; omega)); have hb1f0 := fun o => below_fr hb1 (w.heap.size) o (by first | omega | (simp only [ZA, ZS, ZD, ZN]; omega)))
      have hB1 := HPB.out w1 (by rw [← hW0z]; exact hb1)
      (go_wp2_with fail; (with_reducible refine (K2.out _ hB1).mono ?_); rintro e w2 ⟨rfl, hb2⟩; have hb2z := Below.size hb2; (try simp only [ZA, ZS, ZD, ZN] at hb2z))
      go_wp2
      go_ret
      exact ⟨by rw [HX.out, errM_0]; rfl, hB1.trans (hb2.mono hB1.size)⟩
  · have HX := Lib.hid (Chn.codeCe_a hB)
    rw [errM_n hB] at K1
    have HE := Lib.hid (errM_n hB)
    clear h hB
    go_enter Tryz.func53, Tryz.ntmps53
    (go_wp2_with fail; (with_reducible refine (K1.out _ (by (skip); repeat' (first | (with_reducible exact Below.refl _ _) | (with_reducible assumption) | (with_reducible refine Below.alloc ?_ ?_ _) | (with_reducible refine Below.drew ?_) | (with_reducible refine below_drewN ?_ _) | (with_reducible refine Below.setCell ?_ ?_ _) | (with_reducible refine Below.trans ?_ (Below.mono (by with_reducible assumption) ?_)) | omega | (simp only [ZA, ZS, ZD, ZN]; omega) | go_size))).mono ?_); rintro e w1 ⟨rfl, hb1⟩; have hb1z := Below.size hb1; (try simp only [ZA, ZS, ZD, ZN] at hb1z); have hb1c0 := fun o => below_at hb1 (w.heap.size) o (by first | omega | (simp only [ZA, ZS, ZD, ZN]; omega)); have hb1f0 := fun o => below_fr hb1 (w.heap.size) o (by first | omega | (simp only [ZA, ZS, ZD, ZN]; omega)))
    have hB1 := HPB.out w1 (by rw [← hW0z]; exact hb1)
    go_wp2
    go_ret
    exact ⟨by rw [HX.out, HE.out]; rfl, hB1⟩
end
theorem ansQ_0 {q : Rat} {w' : World} {v : Value} (hr : RdS w' 0 v (canR q)) : AnsQ errM q 0 (.returned (.tuple #[v, .nilIface])) w' := ⟨v, by rw [errM_0], hr⟩
theorem ansQ_n {code : Int} {w' : World} {z : Value} (hz : errM code = z) : AnsQ errM 0 code (.returned (.tuple #[zr, z])) w' := ⟨zr, by rw [hz], RdS.zr _ _⟩
/-- what Frequency answers -/
def Chn.frqV (c : Chn) (n : Nat) (R : Nat → Rw) : Rat := if c.codeCe n R = 0 then c.frq (vecQ n R) c.nm else 0
set_option maxHeartbeats 16000000 in
theorem Frequency_any {w : World} {AM AD AV : Option Addr} {cm cd n ca : Nat} {c : Chn} {R : Nat → Rw} (h : DistS w AM cm AD cd c AV n R) :
    Calls Tryz.prog 15 #[cv c.st c.sr AM c.nm cm AD c.nd cd, .slice AV n ca] w fun e w' => AnsQ errM (c.frqV n R) (c.codeCe n R) e w' ∧ Below w.heap.size w w' := by
  have K1 := Lib.hid (fun W (hb : Below w.heap.size w W) => certain_any (ca := ca) (h.below hb))
  have HPB := Lib.hid (fun W hb => par_below (W := W) (w := w) (o := .cells #[.int .i64 c.st, .int .i64 c.sr, .slice AM c.nm cm, .slice AD c.nd cd] 25) hb)
  have HPC := Lib.hid (fun W hb => par_cells (W := W) (w := w) (a := .int .i64 c.st) (b := .int .i64 c.sr) (d := .slice AM c.nm cm) (e := .slice AD c.nd cd) (t := 25) hb)
  have hW0z : (w.alloc (.cells #[.int .i64 c.st, .int .i64 c.sr, .slice AM c.nm cm, .slice AD c.nd cd] 25)).heap.size = w.heap.size + 1 := by simp
  have HR0 : Hid (VarR (w.heap.size + 1) 0 ((w.alloc (.cells #[.int .i64 c.st, .int .i64 c.sr, .slice AM c.nm cm, .slice AD c.nd cd] 25)).alloc (.cells #[.bool false, .slice none 0 0, .slice none 0 0] 30))) := by
    have h1 := VarR.new (w.alloc (.cells #[.int .i64 c.st, .int .i64 c.sr, .slice AM c.nm cm, .slice AD c.nd cd] 25))
    rw [hW0z] at h1
    exact h1
  have HAL0 : Hid (Below (w.heap.size + 1) (w.alloc (.cells #[.int .i64 c.st, .int .i64 c.sr, .slice AM c.nm cm, .slice AD c.nd cd] 25)) ((w.alloc (.cells #[.int .i64 c.st, .int .i64 c.sr, .slice AM c.nm cm, .slice AD c.nd cd] 25)).alloc (.cells #[.bool false, .slice none 0 0, .slice none 0 0] 30))) := (Below.refl _ _).alloc (by simp) _
  by_cases hC : c.codeCe n R = 0
  · obtain ⟨hB, -⟩ := Chn.codeCe_0 hC
    obtain ⟨h0, hnn, hv0⟩ := Chn.codeB_0 hB
    have ok := Chn.ok_iff.1 h0
    have hst := ok.st
    have hn1 := ok.lo
    have hs := h.sm.ch
    have hn9 := h.sm.nd ok
    have hnm := hs.nm
    have hV : c.frqV n R = c.frq (vecQ n R) c.nm := by unfold Chn.frqV; rw [if_pos hC]
    have hfz := h.fz hB
    have hVc := h.vec hB
    rw [hC, errM_0] at K1
    rw [hC, hV]
    subst hnn
    obtain ⟨X, hX⟩ : ∃ X, X = vecQ c.nd R := ⟨_, rfl⟩
    rw [← hX] at hfz hVc ⊢
    obtain ⟨M, hM⟩ : ∃ M, M = 220000100 := ⟨_, rfl⟩
    obtain ⟨b1, b2, b3, b4, b5⟩ := h.sm.bal ok _ X hfz
    have HS2 : Hid (∀ k, k < c.nm → ∀ s, Sz M (X s * c.q k)) := fun k hk s => (b2 k hk s).more (by omega)
    have HS4 : Hid (∀ k, k ≤ c.nm → Sz M (c.frq X k)) := fun k hk => (b4 k hk _).more (by omega)
    have HXS : Hid (∀ s, Sz M (X s)) := fun s => ((hfz.more (show 220000000 ≤ 220000001 by omega)).sz (by omega) s).more (by omega)
    have HF0 : Hid (c.frq X 0 = 0) := by show c.frq X 0 = 0; unfold Chn.frq floG; rfl
    have HFY : Hid (∀ k, c.D (c.f k) = false → c.D (c.t k) = true → c.frq X (k + 1) = c.frq X k + X (c.f k) * c.q k) := fun k h1 h2 => by unfold Chn.frq; exact floG_yes (by rw [h1, h2]; rfl)
    have HFN : Hid (∀ k, (!c.D (c.f k) && c.D (c.t k)) = false → c.frq X (k + 1) = c.frq X k) := fun k h1 => by unfold Chn.frq; exact floG_no h1
    obtain ⟨FL, hFL⟩ : ∃ FL : Nat → Rat, FL = c.frq X := ⟨_, rfl⟩
    rw [← hFL] at HS4 HF0 HFY HFN ⊢
    have HMV := Lib.hid (fun W hb k hk => h.ch.mv_later (W := W) ok hb (k := k) hk)
    have HDN := Lib.hid (fun W hb s hs => h.ch.dn_later (W := W) hb (s := s) hs)
    have HSQ := Lib.hid (fun k hk => (hs.siz ok).raw k hk)
    have HV := Lib.hid hVc
    have hML : 400 ≤ M ∧ M ≤ 1000000000 := by omega
    obtain ⟨bd, od, rfl, hbd, -⟩ := HDN.out w (Below.refl _ _) 0 (by omega)
    have hd0 := fun W (hb : Below w.heap.size w W) s (hs : s < c.nd) => (by
      obtain ⟨b, o, e, -, p⟩ := HDN.out W hb s hs
      cases e
      exact p : W.cell? ⟨bd, od + s, none⟩ = some (.bool (c.D s)))
    have HD := Lib.hid hd0
    rw [hst] at K1 HPB HPC hW0z HR0 HAL0 ⊢
    clear h hC hB h0 hv0 ok hst hs hV hfz hVc hX hM b1 b2 b3 b4 b5 hFL HDN hd0
    go_enter Tryz.func15, Tryz.ntmps15
    (go_wp2_with fail; (with_reducible refine (K1.out _ (by (skip); repeat' (first | (with_reducible exact Below.refl _ _) | (with_reducible assumption) | (with_reducible refine Below.alloc ?_ ?_ _) | (with_reducible refine Below.drew ?_) | (with_reducible refine below_drewN ?_ _) | (with_reducible refine Below.setCell ?_ ?_ _) | (with_reducible refine Below.trans ?_ (Below.mono (by with_reducible assumption) ?_)) | omega | (simp only [ZA, ZS, ZD, ZN]; omega) | go_size))).mono ?_); rintro e w1 ⟨rfl, hb1⟩; have hb1z := Below.size hb1; (try simp only [ZA, ZS, ZD, ZN] at hb1z))
    have hz1 := hb1.size
    simp only [World.size_alloc] at hz1
    have HB1 := Lib.hid (HAL0.out.trans (hb1.mono (by simp)))
    have HVR := Lib.hid (HR0.out.below hb1)
    clear hb1 HR0 HAL0
    generalize w.alloc (.cells #[.int .i64 (c.nd : Int), .int .i64 c.sr, .slice AM c.nm cm, .slice (some ⟨bd, od, none⟩) c.nd cd] 25) = W0 at *
    obtain ⟨y0, y1, y2, y3⟩ := HPC.out _ HB1.out
    have hrz : w.heap.size + 1 < w1.heap.size := HVR.out.2.2.1
    have y2' := fun o => Lib.cell?_alloc_some o y2
    go_wp2
    go_loopw [20] (fun i wr => ∃ k : Nat, k ≤ c.nm ∧ i = .int .i64 (k : Int) ∧ VarR w1.heap.size (FL k) wr ∧ Below w1.heap.size w1 wr) (fun i _ => c.nm - (intOf i).toNat)
    case atStart => exact ⟨0, Nat.zero_le _, rfl, by rw [HF0.out]; exact VarR.new w1, (Below.refl _ _).alloc (Nat.le_refl _) _⟩
    case round =>
      clear y0 y1 y2 y3 y2'
      obtain ⟨k, hk, rfl, vS, hb⟩ := hrel
      have hz := hb.size
      have hbr : Below (w.heap.size + 1) W0 wr := HB1.out.trans (hb.mono (by omega))
      have hbw := HPB.out _ hbr
      have hvz := vS.2.2.1
      by_cases hlt : k < c.nm
      · obtain ⟨-, -, -, y3⟩ := HPC.out _ hbr
        obtain ⟨bm, om, s1, A1, n1, c1, B1, m1, d1, rfl, hbm, g0, g1, g2, g3, g4, r1, hfn, htn, hft⟩ := HMV.out wr hbw k hlt
        obtain ⟨bx, ox, s2, A2, n2, c2, B2, m2, d2, rfl, hbx, v0, v1, v2, rf2⟩ := HV.out.at_ hfn
        have e0 := (hbw.cell (lt_of_cell v0)).trans v0
        have e1 := (hbw.cell (lt_of_cell v1)).trans v1
        have e2 := (hbw.cell (lt_of_cell v2)).trans v2
        have hdf := HD.out wr hbw _ hfn
        have hdt := HD.out wr hbw _ htn
        obtain ⟨q1, q2⟩ := HSQ.out k hlt
        have hqv : valR (c.R k) = c.q k := rfl
        have qm := r1.rdq (L := M) (by omega) (by omega)
        rw [hqv] at qm
        have qf := ((show RdS w _ _ (canR (X (c.f k))) from rf2).kp (Kp.of_below hbw)).canQ (HXS.out (c.f k))
        have hFY := HFY.out k
        have hFN := HFN.out k
        have hS9 := HS2.out k hlt (c.f k)
        have hSk := HS4.out k hk
        obtain ⟨f, hf⟩ : ∃ f, f = c.f k := ⟨_, rfl⟩
        obtain ⟨tt, ht⟩ : ∃ tt, tt = c.t k := ⟨_, rfl⟩
        obtain ⟨q, hq⟩ : ∃ q, q = c.q k := ⟨_, rfl⟩
        rw [← hf] at g0 e0 e1 e2 hfn hft qf hS9 hdf hFY hFN
        rw [← ht] at g1 htn hft hdt hFY hFN
        rw [← hq] at hFY qm hS9
        have K1 := Lib.hid (fun W (hb : Below wr.heap.size wr W) => mulQ (qf.below hb) (qm.below hb) (by omega) (by omega))
        have HVS := Lib.hid vS
        have HB := Lib.hid hb
        clear hf ht hq hqv q1 q2 rf2 r1 v0 v1 v2 qm qf vS hb
        have hki : (k : Int) < (c.nm : Int) := by omega
        have hk0 : (0 : Int) ≤ (k : Int) := by omega
        have hfi : (f : Int) < (c.nd : Int) := by omega
        have hf0 : (0 : Int) ≤ (f : Int) := by omega
        have hti : (tt : Int) < (c.nd : Int) := by omega
        have ht0 : (0 : Int) ≤ (tt : Int) := by omega
        have hbx9 : bx < wr.heap.size := by have := hbw.size; omega
        have hbd9 : bd < wr.heap.size := by have := hbw.size; omega
        have hw9 : w.heap.size < wr.heap.size := by omega
        (have ogc := fun o i => below_at ((Below.refl wr.heap.size wr).alloc (Nat.le_refl _) o) (w.heap.size) i (by omega)); (have ogf := fun o i => below_fr ((Below.refl wr.heap.size wr).alloc (Nat.le_refl _) o) (w.heap.size) i (by omega))
        (have ovdc := fun o i => below_at ((Below.refl wr.heap.size wr).alloc (Nat.le_refl _) o) (bd) i (by omega)); (have ovdf := fun o i => below_fr ((Below.refl wr.heap.size wr).alloc (Nat.le_refl _) o) (bd) i (by omega))
        have hal : Below wr.heap.size wr (wr.alloc (.cells #[.int .i64 (f : Int), .int .i64 (tt : Int), .bool s1, .slice A1 n1 c1, .slice B1 m1 d1] 33)) := (Below.refl _ _).alloc (Nat.le_refl _) _
        have HAL := Lib.hid hal
        clear hal
        cases hDf : c.D f
        · cases hDt : c.D tt
          · rw [hDf] at hdf
            rw [hDt] at hdt
            have HE := Lib.hid (hFN (by rw [hDf, hDt]; rfl))
            clear hDf hDt hFY hFN
            go_wp2
            go_roundw
            case rel => exact ⟨k + 1, by omega, by go_num, by rw [HE.out]; exact HVS.out.below HAL.out, HB.out.trans (HAL.out.mono (by omega))⟩
            case measure => simp [intOf]; omega
          · rw [hDf] at hdf
            rw [hDt] at hdt
            have HE := Lib.hid (hFY hDf hDt)
            clear hDf hDt hFY hFN
            go_wp2
            generalize hwq : wr.alloc (.cells #[.int .i64 (f : Int), .int .i64 (tt : Int), .bool s1, .slice A1 n1 c1, .slice B1 m1 d1] 33) = wq at *
            have hAL := HAL.out
            have z0 : wq.cell? ⟨wr.heap.size, 0, none⟩ = some (.int .i64 (f : Int)) := by rw [← hwq]; simp
            have z2 : wq.cell? ⟨wr.heap.size, 2, none⟩ = some (.bool s1) := by rw [← hwq]; simp
            have z3 : wq.cell? ⟨wr.heap.size, 3, none⟩ = some (.slice A1 n1 c1) := by rw [← hwq]; simp
            have z4 : wq.cell? ⟨wr.heap.size, 4, none⟩ = some (.slice B1 m1 d1) := by rw [← hwq]; simp
            have hwz : wq.heap.size = wr.heap.size + 1 := by rw [← hwq]; simp
            have V0 := (hAL.cell (p := ⟨bx, ox + f * 3, none⟩) hbx9).trans e0
            have V1 := (hAL.cell (p := ⟨bx, ox + f * 3 + 1, none⟩) hbx9).trans e1
            have V2 := (hAL.cell (p := ⟨bx, ox + f * 3 + 2, none⟩) hbx9).trans e2
            have vq := HVS.out.below hAL
            have HVQ := Lib.hid vq
            obtain ⟨⟨s8, A8, n8, c8, B8, m8, d8, o0, o1, o2, r0⟩, hRB, hgz, hgf⟩ := vq
            have qd := r0.canQ hSk
            have KA := Lib.hid (fun W base v1 (hb : Below wq.heap.size wq W) (hv : OwQ W base v1 (X f * q)) => addQ (qd.below hb) (hv.rq hS9) (by omega) (by omega))
            have ne1 : ¬ (wr.heap.size = w1.heap.size) := by omega
            have ne2 : ¬ (w1.heap.size = wr.heap.size) := by omega
            have ne3 : ¬ (bx = w1.heap.size) := by have := hbx; omega
            have ne4 : ¬ (w1.heap.size = bx) := by omega
            clear r0 qd hAL hwq hRB g0 g1 g2 g3 g4 e0 e1 e2 ogc ogf ovdc ovdf y3 hdf hdt
            rw [ld_later 30 (.tmp 7)]
            go_region_held3 (fun W => W.cell? ⟨wr.heap.size, 0, none⟩ = some (.int .i64 (f : Int)) ∧ W.cell? ⟨wr.heap.size, 2, none⟩ = some (.bool s1) ∧ W.cell? ⟨wr.heap.size, 3, none⟩ = some (.slice A1 n1 c1) ∧ W.cell? ⟨wr.heap.size, 4, none⟩ = some (.slice B1 m1 d1) ∧ W.cell? ⟨bx, ox + f * 3, none⟩ = some (.bool s2) ∧ W.cell? ⟨bx, ox + f * 3 + 1, none⟩ = some (.slice A2 n2 c2) ∧ W.cell? ⟨bx, ox + f * 3 + 2, none⟩ = some (.slice B2 m2 d2)) (go_keep)
              (first | ((go_at_call 12; (with_reducible refine (K1.out _ (HAL.out.trans (by (skip); repeat' (first | (with_reducible exact Below.refl _ _) | (with_reducible assumption) | (with_reducible refine Below.alloc ?_ ?_ _) | (with_reducible refine Below.drew ?_) | (with_reducible refine below_drewN ?_ _) | (with_reducible refine Below.setCell ?_ ?_ _) | (with_reducible refine Below.trans ?_ (Below.mono (by with_reducible assumption) ?_)) | omega | (simp only [ZA, ZS, ZD, ZN]; omega) | go_size)))).mono ?_); rintro e w6 ⟨⟨v6, rfl, own6⟩, hb6⟩; have hb6z := Below.size hb6; (try simp only [ZA, ZS, ZD] at hb6z); have hb6c0 := fun o => below_at hb6 (w1.heap.size) o (by first | omega | (simp only [ZA, ZS, ZD]; omega)); have hb6f0 := fun o => below_fr hb6 (w1.heap.size) o (by first | omega | (simp only [ZA, ZS, ZD]; omega)); have hb6l0 : w1.heap.size < (w6).heap.size := (by omega); have hb6c1 := fun o => below_at hb6 (wr.heap.size) o (by first | omega | (simp only [ZA, ZS, ZD]; omega)); have hb6f1 := fun o => below_fr hb6 (wr.heap.size) o (by first | omega | (simp only [ZA, ZS, ZD]; omega)); have hb6l1 : wr.heap.size < (w6).heap.size := (by omega); have hb6c2 := fun o => below_at hb6 (bx) o (by first | omega | (simp only [ZA, ZS, ZD]; omega)); have hb6f2 := fun o => below_fr hb6 (bx) o (by first | omega | (simp only [ZA, ZS, ZD]; omega)); have hb6l2 : bx < (w6).heap.size := (by omega)); obtain ⟨s4, A4, n4, c4, B4, m4, d4, rfl⟩ := own6.form) | ((go_at_call 29; (with_reducible refine (KA.out _ _ _ (by have z0 := Below.size hb6; (try simp only [ZA, ZS, ZD, ZN] at z0 ⊢; skip); repeat' (first | (with_reducible exact Below.refl _ _) | (with_reducible assumption) | (with_reducible refine Below.alloc ?_ ?_ _) | (with_reducible refine Below.drew ?_) | (with_reducible refine below_drewN ?_ _) | (with_reducible refine Below.setCell ?_ ?_ _) | (with_reducible refine Below.trans ?_ (Below.mono (by with_reducible assumption) ?_)) | omega | (simp only [ZA, ZS, ZD, ZN]; omega) | go_size)) own6).mono ?_); rintro e w7 ⟨⟨v7, rfl, own7⟩, hb7⟩; have hb7z := Below.size hb7; (try simp only [ZA, ZS, ZD] at hb7z); have hb7c0 := fun o => below_at hb7 (w1.heap.size) o (by first | omega | (simp only [ZA, ZS, ZD]; omega)); have hb7f0 := fun o => below_fr hb7 (w1.heap.size) o (by first | omega | (simp only [ZA, ZS, ZD]; omega)); have hb7l0 : w1.heap.size < (w7).heap.size := (by omega); have hb7c1 := fun o => below_at hb7 (wr.heap.size) o (by first | omega | (simp only [ZA, ZS, ZD]; omega)); have hb7f1 := fun o => below_fr hb7 (wr.heap.size) o (by first | omega | (simp only [ZA, ZS, ZD]; omega)); have hb7l1 : wr.heap.size < (w7).heap.size := (by omega); have hb7c2 := fun o => below_at hb7 (bx) o (by first | omega | (simp only [ZA, ZS, ZD]; omega)); have hb7f2 := fun o => below_fr hb7 (bx) o (by first | omega | (simp only [ZA, ZS, ZD]; omega)); have hb7l2 : bx < (w7).heap.size := (by omega)); obtain ⟨s9, A9, n9, c9, B9, m9, d9, rfl⟩ := own7.form) | fail)
            all_goals
              have hb9 : Below wq.heap.size wq w7 := (by have z0 := Below.size hb6; have z1 := Below.size hb7; (try simp only [ZA, ZS, ZD, ZN] at z0 z1 ⊢; skip); repeat' (first | (with_reducible exact Below.refl _ _) | (with_reducible assumption) | (with_reducible refine Below.alloc ?_ ?_ _) | (with_reducible refine Below.drew ?_) | (with_reducible refine below_drewN ?_ _) | (with_reducible refine Below.setCell ?_ ?_ _) | (with_reducible refine Below.trans ?_ (Below.mono (by with_reducible assumption) ?_)) | omega | (simp only [ZA, ZS, ZD, ZN]; omega) | go_size))
              have p1 := HVQ.out.below hb9
              have nT := p1.put (own7.rs (b0 := 0))
              rw [← HE.out] at nT
              have hb57 : Below w1.heap.size w1 w7 := HB.out.trans ((HAL.out.trans (hb9.mono (by omega))).mono (by omega))
              have nb := below_set3 hb57 (Nat.le_refl _) (.bool s9) (.slice A9 n9 c9) (.slice B9 m9 d9)
              have HNT := Lib.hid nT
              have HNB := Lib.hid nb
              clear nT nb hb57 p1 hb9
              go_wp2
              go_roundw
              case rel => exact ⟨k + 1, by omega, by go_num, HNT.out, HNB.out⟩
              case measure => simp [intOf]; omega
        · rw [hDf] at hdf
          have HE := Lib.hid (hFN (by rw [hDf]; rfl))
          clear hDf hFY hFN
          go_wp2
          go_roundw
          case rel => exact ⟨k + 1, by omega, by go_num, by rw [HE.out]; exact HVS.out.below HAL.out, HB.out.trans (HAL.out.mono (by omega))⟩
          case measure => simp [intOf]; omega
      · have hkm : k = c.nm := by omega
        subst hkm
        have vr := HVR.out.below hb
        have HBW := Lib.hid hbw
        have HVS := Lib.hid vS
        have HVR2 := Lib.hid vr
        obtain ⟨⟨s8, A8, n8, c8, B8, m8, d8, o0, o1, o2, r0⟩, -, -, -⟩ := vS
        obtain ⟨⟨s7, A7, n7, c7, B7, m7, d7, p0, p1, p2, -⟩, -, hrz2, hrf⟩ := vr
        have HR0 := Lib.hid r0
        have hput := HVR2.out.put (q' := FL c.nm) r0
        have hbf := below_set3 hbw (show w.heap.size ≤ w.heap.size + 1 by omega) (.bool s8) (.slice A8 n8 c8) (.slice B8 m8 d8)
        have s9 := set3 (w := wr) (g := w.heap.size + 1) (o := 0) (a := .bool s8) (b := .slice A8 n8 c8) (d := .slice B8 m8 d8) p0 p1 p2
        have hrs := r0.kp (Kp.store3 HVR2.out.2.1 (Nat.zero_le _) (.bool s8) (.slice A8 n8 c8) (.slice B8 m8 d8))
        have HRS := Lib.hid hrs
        have HBF := Lib.hid hbf
        clear r0 hput hbf hrs hb hbr hbw
        go_wp2
        obtain ⟨t0, t1, t2⟩ := s9
        refine bodyPost_ret (v := (.tuple #[rv s8 A8 n8 c8 B8 m8 d8, .nilIface])) (by simp [results, Tryz.results15, go_sem, t0, t1, t2]) rfl ?_
        exact ⟨ansQ_0 HRS.out, HBF.out⟩
  · have HV : Hid (c.frqV n R = 0) := by show c.frqV n R = 0; unfold Chn.frqV; rw [if_neg hC]
    have HE := Lib.hid (errM_n hC)
    rw [errM_n hC] at K1
    obtain ⟨cc, hcc⟩ : ∃ cc, cc = c.codeCe n R := ⟨_, rfl⟩
    rw [← hcc] at K1 HE ⊢
    clear h hC hcc
    go_enter Tryz.func15, Tryz.ntmps15
    (go_wp2_with fail; (with_reducible refine (K1.out _ (by (skip); repeat' (first | (with_reducible exact Below.refl _ _) | (with_reducible assumption) | (with_reducible refine Below.alloc ?_ ?_ _) | (with_reducible refine Below.drew ?_) | (with_reducible refine below_drewN ?_ _) | (with_reducible refine Below.setCell ?_ ?_ _) | (with_reducible refine Below.trans ?_ (Below.mono (by with_reducible assumption) ?_)) | omega | (simp only [ZA, ZS, ZD, ZN]; omega) | go_size))).mono ?_); rintro e w1 ⟨rfl, hb1⟩; have hb1z := Below.size hb1; (try simp only [ZA, ZS, ZD, ZN] at hb1z); have hb1c0 := fun o => below_at hb1 (w.heap.size) o (by first | omega | (simp only [ZA, ZS, ZD, ZN]; omega)); have hb1f0 := fun o => below_fr hb1 (w.heap.size) o (by first | omega | (simp only [ZA, ZS, ZD, ZN]; omega)); have hb1c1 := fun o => below_at hb1 (w.heap.size + 1) o (by first | omega | (simp only [ZA, ZS, ZD, ZN]; omega)); have hb1f1 := fun o => below_fr hb1 (w.heap.size + 1) o (by first | omega | (simp only [ZA, ZS, ZD, ZN]; omega)))
    go_wp2
    refine bodyPost_ret (v := (.tuple #[zr, .iface 41 (.int .i64 cc)])) (by simp [results, Tryz.results15, go_sem, hb1c1]) rfl ?_
    have hb9 : Below w.heap.size w w1 := (by have z0 := Below.size hb1; (try simp only [ZA, ZS, ZD, ZN] at z0 ⊢; skip); repeat' (first | (with_reducible exact Below.refl _ _) | (with_reducible assumption) | (with_reducible refine Below.alloc ?_ ?_ _) | (with_reducible refine Below.drew ?_) | (with_reducible refine below_drewN ?_ _) | (with_reducible refine Below.setCell ?_ ?_ _) | (with_reducible refine Below.trans ?_ (Below.mono (by with_reducible assumption) ?_)) | omega | (simp only [ZA, ZS, ZD, ZN]; omega) | go_size))
    exact ⟨by rw [HV.out]; exact ansQ_n HE.out, ((hb9.setCell (p := ⟨w.heap.size + 1, 0, none⟩) (by show _ ≤ w.heap.size + 1; omega) _).setCell (p := ⟨w.heap.size + 1, 1, none⟩) (by show _ ≤ w.heap.size + 1; omega) _).setCell (p := ⟨w.heap.size + 1, 2, none⟩) (by show _ ≤ w.heap.size + 1; omega) _⟩
end Go.Proofs.YtmebdlilbnadgaaGreatDoor
