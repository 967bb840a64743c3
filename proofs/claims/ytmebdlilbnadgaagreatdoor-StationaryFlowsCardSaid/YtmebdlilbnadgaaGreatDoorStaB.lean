/- Contracts of functions and lemmas, used by the proofs of the given statements. No condition beyond those that each lemma names. -/
import Derived.Test.YtmebdlilbnadgaaGreatDoorStaA
import Derived.Test.YtmebdlilbnadgaaGreatDoorJLinY
import Derived.Test.YtmebdlilbnadgaaGreatDoorJChX
namespace Go.Proofs.YtmebdlilbnadgaaGreatDoor
open Go.RowKit
set_option linter.unusedSimpArgs false
set_option linter.unusedVariables false
set_option maxRecDepth 20000
attribute [local irreducible] nv wp win plainB validR valR canR mvE chkM codeC netS sumN
/-! ## package stationary: check, balanced -/
theorem VarR.grown {g k : Nat} {q : Rat} {w w' : World} (h : VarR g q w) (hg : w.grownBy w' (some k)) (hk : ∃ cur, w.heap[k]? = some (.cells cur 30 (0, 0))) (hne : k ≠ g) : VarR g q w' := by
  obtain ⟨⟨s, A, n, c, B, m, d, h0, h1, h2, r⟩, hB, hz, hf⟩ := h
  have hne' : some g ≠ some k := fun e => by injection e with e; exact hne e.symm
  have hc : ∀ i, w'.cell? ⟨g, i, none⟩ = w.cell? ⟨g, i, none⟩ := fun i => hg.cell_far ⟨g, i, none⟩ hz hne'
  refine ⟨⟨s, A, n, c, B, m, d, (hc 0).trans h0, (hc 1).trans h1, (hc 2).trans h2, r.kp (Kp.of_grown hg (fun q e => by injection e with e; subst e; exact ⟨Nat.zero_le _, hk⟩))⟩, ?_, Nat.lt_of_lt_of_le hz hg.size, fun i => (hg.frozen_far ⟨g, i, none⟩ hz hne').trans (hf i)⟩
  obtain ⟨cur, fz, e⟩ := hB
  exact ⟨cur, fz, (hg.block g hz hne').trans e⟩
theorem scheck_any {w : World} {AM AD AV : Option Addr} {cm cd n ca : Nat} {c : Chn} {R : Nat → Rw} (h : ChI w w.heap.size AM cm AD cd c) (hs : ChS c 400) (hv : RowA w w.heap.size AV n R) (hz : BigS n R) (hn : n ≤ 1000000) :
    Calls Tryz.prog 60 #[cv c.st c.sr AM c.nm cm AD c.nd cd, .slice AV n ca] w fun e w' => e = .returned (errM (c.codeB n R)) ∧ Below w.heap.size w w' := by
  have K1 := Lib.hid (fun W (hb : Below w.heap.size w W) => chCheck (h.below hb) hs.nm hs.short)
  have KC := Lib.hid (fun W (hb : Below w.heap.size w W) => scontains_any (c := ca) (hv.below hb) hz hn)
  have HPB := Lib.hid (fun W hb => par_below (W := W) (w := w) (o := .cells #[.int .i64 c.st, .int .i64 c.sr, .slice AM c.nm cm, .slice AD c.nd cd] 25) hb)
  have HPC := Lib.hid (fun W hb => par_cells (W := W) (w := w) (a := .int .i64 c.st) (b := .int .i64 c.sr) (d := .slice AM c.nm cm) (e := .slice AD c.nd cd) (t := 25) hb)
  have hW0z : (w.alloc (.cells #[.int .i64 c.st, .int .i64 c.sr, .slice AM c.nm cm, .slice AD c.nd cd] 25)).heap.size = w.heap.size + 1 := by simp
  by_cases h0 : c.code = 0
  · have ok := Chn.ok_iff.1 h0
    have hst := ok.st
    rw [h0, errM_0] at K1
    by_cases hnn : n = c.nd
    · have e1 : ((n : Int) != c.st) = false := by rw [hst]; simp [hnn]
      cases hv0 : allV n R
      · have HX := Lib.hid (Chn.codeB_v h0 hnn hv0)
        rw [hv0] at KC
        clear h hs hv hz ok hst hnn hv0
        go_enter Tryz.func60, Tryz.ntmps60
        (go_wp2_with fail; (with_reducible refine (K1.out _ (by (skip); repeat' (first | (with_reducible exact Below.refl _ _) | (with_reducible assumption) | (with_reducible refine Below.alloc ?_ ?_ _) | (with_reducible refine Below.drew ?_) | (with_reducible refine below_drewN ?_ _) | (with_reducible refine Below.setCell ?_ ?_ _) | (with_reducible refine Below.trans ?_ (Below.mono (by with_reducible assumption) ?_)) | omega | (simp only [ZA, ZS, ZD, ZN]; omega) | go_size))).mono ?_); rintro e w1 ⟨rfl, hb1⟩; have hb1z := Below.size hb1; (try simp only [ZA, ZS, ZD, ZN] at hb1z); have hb1c0 := fun o => below_at hb1 (w.heap.size) o (by first | omega | (simp only [ZA, ZS, ZD, ZN]; omega)); have hb1f0 := fun o => below_fr hb1 (w.heap.size) o (by first | omega | (simp only [ZA, ZS, ZD, ZN]; omega)))
        have hB1 := HPB.out w1 (by rw [← hW0z]; exact hb1)
        (go_wp2_with fail; (with_reducible refine (KC.out _ hB1).mono ?_); rintro e w2 ⟨rfl, hb2⟩; have hb2z := Below.size hb2; (try simp only [ZA, ZS, ZD, ZN] at hb2z))
        go_wp2
        go_ret
        exact ⟨by rw [HX.out, errM_n (by omega)]; rfl, hB1.trans (hb2.mono hB1.size)⟩
      · have HX := Lib.hid (Chn.codeB_z h0 hnn hv0)
        rw [hv0] at KC
        clear h hs hv hz ok hst hnn hv0
        go_enter Tryz.func60, Tryz.ntmps60
        (go_wp2_with fail; (with_reducible refine (K1.out _ (by (skip); repeat' (first | (with_reducible exact Below.refl _ _) | (with_reducible assumption) | (with_reducible refine Below.alloc ?_ ?_ _) | (with_reducible refine Below.drew ?_) | (with_reducible refine below_drewN ?_ _) | (with_reducible refine Below.setCell ?_ ?_ _) | (with_reducible refine Below.trans ?_ (Below.mono (by with_reducible assumption) ?_)) | omega | (simp only [ZA, ZS, ZD, ZN]; omega) | go_size))).mono ?_); rintro e w1 ⟨rfl, hb1⟩; have hb1z := Below.size hb1; (try simp only [ZA, ZS, ZD, ZN] at hb1z); have hb1c0 := fun o => below_at hb1 (w.heap.size) o (by first | omega | (simp only [ZA, ZS, ZD, ZN]; omega)); have hb1f0 := fun o => below_fr hb1 (w.heap.size) o (by first | omega | (simp only [ZA, ZS, ZD, ZN]; omega)))
        have hB1 := HPB.out w1 (by rw [← hW0z]; exact hb1)
        (go_wp2_with fail; (with_reducible refine (KC.out _ hB1).mono ?_); rintro e w2 ⟨rfl, hb2⟩; have hb2z := Below.size hb2; (try simp only [ZA, ZS, ZD, ZN] at hb2z))
        go_wp2
        go_ret
        exact ⟨by rw [HX.out, errM_0]; rfl, hB1.trans (hb2.mono hB1.size)⟩
    · have e1 : ((n : Int) != c.st) = true := by rw [hst]; simp; omega
      have HX := Lib.hid (Chn.codeB_n (R := R) h0 hnn)
      clear h hs hv hz ok hst hnn
      go_enter Tryz.func60, Tryz.ntmps60
      (go_wp2_with fail; (with_reducible refine (K1.out _ (by (skip); repeat' (first | (with_reducible exact Below.refl _ _) | (with_reducible assumption) | (with_reducible refine Below.alloc ?_ ?_ _) | (with_reducible refine Below.drew ?_) | (with_reducible refine below_drewN ?_ _) | (with_reducible refine Below.setCell ?_ ?_ _) | (with_reducible refine Below.trans ?_ (Below.mono (by with_reducible assumption) ?_)) | omega | (simp only [ZA, ZS, ZD, ZN]; omega) | go_size))).mono ?_); rintro e w1 ⟨rfl, hb1⟩; have hb1z := Below.size hb1; (try simp only [ZA, ZS, ZD, ZN] at hb1z); have hb1c0 := fun o => below_at hb1 (w.heap.size) o (by first | omega | (simp only [ZA, ZS, ZD, ZN]; omega)); have hb1f0 := fun o => below_fr hb1 (w.heap.size) o (by first | omega | (simp only [ZA, ZS, ZD, ZN]; omega)))
      have hB1 := HPB.out w1 (by rw [← hW0z]; exact hb1)
      go_wp2
      go_ret
      exact ⟨by rw [HX.out, errM_n (by omega)]; rfl, hB1⟩
  · have HX := Lib.hid (Chn.codeB_a (n := n) (R := R) h0)
    rw [errM_n h0] at K1
    have HE := Lib.hid (errM_n h0)
    clear h hs hv hz h0
    go_enter Tryz.func60, Tryz.ntmps60
    (go_wp2_with fail; (with_reducible refine (K1.out _ (by (skip); repeat' (first | (with_reducible exact Below.refl _ _) | (with_reducible assumption) | (with_reducible refine Below.alloc ?_ ?_ _) | (with_reducible refine Below.drew ?_) | (with_reducible refine below_drewN ?_ _) | (with_reducible refine Below.setCell ?_ ?_ _) | (with_reducible refine Below.trans ?_ (Below.mono (by with_reducible assumption) ?_)) | omega | (simp only [ZA, ZS, ZD, ZN]; omega) | go_size))).mono ?_); rintro e w1 ⟨rfl, hb1⟩; have hb1z := Below.size hb1; (try simp only [ZA, ZS, ZD, ZN] at hb1z); have hb1c0 := fun o => below_at hb1 (w.heap.size) o (by first | omega | (simp only [ZA, ZS, ZD, ZN]; omega)); have hb1f0 := fun o => below_fr hb1 (w.heap.size) o (by first | omega | (simp only [ZA, ZS, ZD, ZN]; omega)))
    have hB1 := HPB.out w1 (by rw [← hW0z]; exact hb1)
    go_wp2
    go_ret
    exact ⟨by rw [HX.out, HE.out]; rfl, hB1⟩
set_option maxHeartbeats 16000000 in
theorem sbalanced_any {w : World} {AM AD AV : Option Addr} {cm cd ca L : Nat} {c : Chn} {x : Nat → Rat} (h : ChI w w.heap.size AM cm AD cd c) (ok : c.Ok) (hS : SizP c) (hv : RowA w w.heap.size AV c.nd (can x)) (hL : L ≤ 220000000) (hfz : FzL L x) :
    Calls Tryz.prog 61 #[cv c.st c.sr AM c.nm cm AD c.nd cd, .slice AV c.nd ca] w fun e w' => e = .returned (.bool (c.balB x)) ∧ Below w.heap.size w w' := by
  have hs := hS.ch
  have hst := ok.st
  have hn1 := ok.lo
  have hn9 := hS.nd ok
  have hnm := hs.nm
  obtain ⟨M, hM⟩ : ∃ M, M = 220000100 := ⟨_, rfl⟩
  obtain ⟨b1, b2, b3, -, -⟩ := hS.bal ok L x hfz
  have HS1 : Hid (∀ k, k ≤ c.nd → Sz M (sumN x k)) := fun k hk => (b1 k (by omega)).more (by omega)
  have HS2 : Hid (∀ k, k < c.nm → ∀ s, Sz M (x s * c.q k)) := fun k hk s => (b2 k hk s).more (by omega)
  have HS3 : Hid (∀ k, k ≤ c.nm → ∀ s, Sz M (netK c.f c.t c.q x k s)) := fun k hk s => (b3 k hk s).more (by omega)
  have HXS : Hid (∀ s, Sz M (x s)) := fun s => ((hfz.more (show L ≤ L + 1 by omega)).sz (by omega) s).more (by omega)
  have HM0 : Hid (sumN x 0 = 0) := by show sumN x 0 = 0; unfold sumN; rfl
  have HMS : Hid (∀ k, sumN x (k + 1) = sumN x k + x k) := fun k => by conv => lhs; unfold sumN
  have HN0 : Hid (netK c.f c.t c.q x 0 = fun _ => 0) := netK_0
  have HNS : Hid (∀ k, c.f k ≠ c.t k → netK c.f c.t c.q x (k + 1) = upd (upd (netK c.f c.t c.q x k) (c.f k) (netK c.f c.t c.q x k (c.f k) - x (c.f k) * c.q k)) (c.t k) (netK c.f c.t c.q x k (c.t k) + x (c.f k) * c.q k)) := fun k hk => netK_s hk
  have HBN : Hid (∀ k, k < c.nd → x k < 0 → c.balB x = false) := fun k hk h => Chn.bal_no fun h2 => absurd (h2.1 k hk) (Rat.not_le.2 h)
  have HBS : Hid (sumN x c.nd ≠ 1 → c.balB x = false) := fun h => Chn.bal_no fun h2 => h h2.2.1
  have HBY : Hid ((∀ s, s < c.nd → 0 ≤ x s) → sumN x c.nd = 1 → c.balB x = allZ c.nd (netK c.f c.t c.q x c.nm)) := fun h1 h2 => by
    by_cases h3 : ∀ i, i < c.nd → netS c.f c.t c.q x c.nm i = 0
    · rw [Chn.bal_yes ⟨h1, h2, h3⟩, allZ_yes (X := netK c.f c.t c.q x c.nm) h3]
    · rw [Chn.bal_no fun h4 => h3 h4.2.2]
      exact (decide_eq_false h3).symm
  obtain ⟨SM, hSM⟩ : ∃ SM : Nat → Rat, SM = sumN x := ⟨_, rfl⟩
  obtain ⟨NK, hNK⟩ : ∃ NK : Nat → Nat → Rat, NK = netK c.f c.t c.q x := ⟨_, rfl⟩
  obtain ⟨bB, hbB⟩ : ∃ bB, bB = c.balB x := ⟨_, rfl⟩
  rw [← hSM] at HS1 HM0 HMS HBS HBY
  rw [← hNK] at HS3 HN0 HNS HBY
  rw [← hbB] at HBN HBS HBY ⊢
  have HMV := Lib.hid (fun W hb k hk => h.mv_later (W := W) ok hb (k := k) hk)
  have HSQ := Lib.hid (fun k hk => (hs.siz ok).raw k hk)
  have HV := Lib.hid hv
  have hML : 400 ≤ M ∧ M ≤ 1000000000 := by omega
  have K0 : Hid (∀ W : World, Calls Tryz.prog 11 #[.int .i64 1] W fun e w' => RetQ W.heap.size ((1 : Nat) : Rat) e w' ∧ Below W.heap.size W w') := fun W => ofQ 1 W (by omega)
  have KC : Hid (∀ (W : World) (b0 c1 : Nat) (A : Option Addr), RowA W b0 A c.nd (can (NK c.nm)) → Calls Tryz.prog 76 #[.slice A c.nd c1, .func (.func 108) #[] #[]] W fun e w' => e = .returned (.bool (!allZ c.nd (NK c.nm))) ∧ Below W.heap.size W w') := fun W b0 c1 A hv => bcontains_any hv (fun s _ => HS3.out c.nm (Nat.le_refl _) s) (by omega) (by omega) (by omega)
  have HPB := Lib.hid (fun W hb => par_below (W := W) (w := w) (o := .cells #[.int .i64 c.st, .int .i64 c.sr, .slice AM c.nm cm, .slice AD c.nd cd] 25) hb)
  have HPC := Lib.hid (fun W hb => par_cells (W := W) (w := w) (a := .int .i64 c.st) (b := .int .i64 c.sr) (d := .slice AM c.nm cm) (e := .slice AD c.nd cd) (t := 25) hb)
  have hW0z : (w.alloc (.cells #[.int .i64 c.st, .int .i64 c.sr, .slice AM c.nm cm, .slice AD c.nd cd] 25)).heap.size = w.heap.size + 1 := by simp
  have HW0 := Lib.hid (Below.refl (w.heap.size + 1) (w.alloc (.cells #[.int .i64 c.st, .int .i64 c.sr, .slice AM c.nm cm, .slice AD c.nd cd] 25)))
  rw [hst] at HPB HPC hW0z HW0 ⊢
  clear h hS hv hfz ok hst hs hM hSM hNK hbB b1 b2 b3
  obtain ⟨x0, x1, x2, x3⟩ := HPC.out _ HW0.out
  go_enter Tryz.func61, Tryz.ntmps61
  go_wp2_with (first | (at_make; refine wpList_makeR rfl (.tmp 13) (.tmp 13) rfl (w.heap.size + 1) c.nd (c.nd : Int) (c.nd : Int) (by first | rfl | simp [Act.eval]) (by first | rfl | simp [Act.eval]) rfl rfl (by omega) (by simp) ?_; intro w1 own1 hb1; (obtain ⟨y0, y1, y2, y3⟩ := HPC.out _ (HW0.out.trans (hb1.mono (by simp))))) | fail)
  rw [hW0z] at own1 hb1
  have hz1 := hb1.size
  rw [hW0z] at hz1
  generalize w.alloc (.cells #[.int .i64 (c.nd : Int), .int .i64 c.sr, .slice AM c.nm cm, .slice AD c.nd cd] 25) = W0 at *
  have hg1 := own1.lt
  have HO1 := Lib.hid own1
  have HB1 : Hid (Below (w.heap.size + 1) W0 w1) := hb1
  clear own1 hb1 x0 x1 x2 x3 y0 y1 y2 y3
  go_loopw [17] (fun i wr => ∃ k : Nat, k ≤ c.nd ∧ i = .int .i64 (k : Int) ∧ (∀ s, s < k → 0 ≤ x s) ∧ VarR w1.heap.size (SM k) wr ∧ Below w1.heap.size w1 wr) (fun i _ => c.nd - (intOf i).toNat)
  case atStart => exact ⟨0, Nat.zero_le _, rfl, fun s hs => by omega, by rw [HM0.out]; exact VarR.new w1, (Below.refl _ _).alloc (Nat.le_refl _) _⟩
  case round =>
    obtain ⟨k, hk, rfl, hall, vS, hb⟩ := hrel
    have hz := hb.size
    have hbr : Below (w.heap.size + 1) W0 wr := HB1.out.trans (hb.mono (by omega))
    have hbW := HPB.out _ hbr
    have HAll := Lib.hid hall
    clear hall
    by_cases hlt : k < c.nd
    · obtain ⟨bx, ox, s2, A2, n2, c2, B2, m2, d2, rfl, hbx, v0, v1, v2, r2⟩ := HV.out.at_ hlt
      have x0 := (hbW.cell (lt_of_cell v0)).trans v0
      have x1 := (hbW.cell (lt_of_cell v1)).trans v1
      have x2 := (hbW.cell (lt_of_cell v2)).trans v2
      have qx := (show RdS w _ _ (canR (x k)) from r2).canQ (HXS.out k)
      have KSg := Lib.hid (fun W (hb : Below w.heap.size w W) => signQ (qx.below hb) (by omega) (by omega))
      have hki : (k : Int) < (c.nd : Int) := by omega
      have hk0 : (0 : Int) ≤ (k : Int) := by omega
      have hszk := HS1.out k hk
      have HQX := Lib.hid qx
      clear v0 v1 v2 r2 qx
      by_cases hlo : x k < 0
      · have HF := Lib.hid (HBN.out k hlt hlo)
        obtain ⟨z, hz⟩ : ∃ z, z = sgnQ (x k) := ⟨_, rfl⟩
        have ez : decide (z < 0) = true := by rw [hz, sgn_neg hlo]; rfl
        rw [← hz] at KSg
        clear hlo hz
        (go_wp2_with fail; (with_reducible refine (KSg.out _ (by (skip); repeat' (first | (with_reducible exact Below.refl _ _) | (with_reducible assumption) | (with_reducible refine Below.alloc ?_ ?_ _) | (with_reducible refine Below.drew ?_) | (with_reducible refine below_drewN ?_ _) | (with_reducible refine Below.setCell ?_ ?_ _) | (with_reducible refine Below.trans ?_ (Below.mono (by with_reducible assumption) ?_)) | omega | (simp only [ZA, ZS, ZD, ZN]; omega) | go_size))).mono ?_); rintro e w3 ⟨rfl, hb3⟩; have hb3z := Below.size hb3; (try simp only [ZA, ZS, ZD, ZN] at hb3z))
        have hB3 : Below w.heap.size w w3 := (by have z0 := Below.size hb3; (try simp only [ZA, ZS, ZD, ZN] at z0 ⊢; skip); repeat' (first | (with_reducible exact Below.refl _ _) | (with_reducible assumption) | (with_reducible refine Below.alloc ?_ ?_ _) | (with_reducible refine Below.drew ?_) | (with_reducible refine below_drewN ?_ _) | (with_reducible refine Below.setCell ?_ ?_ _) | (with_reducible refine Below.trans ?_ (Below.mono (by with_reducible assumption) ?_)) | omega | (simp only [ZA, ZS, ZD, ZN]; omega) | go_size))
        go_wp2
        go_ret
        exact ⟨by rw [HF.out]; rfl, hB3⟩
      · have hge : 0 ≤ x k := Rat.not_lt.1 hlo
        obtain ⟨z, hz⟩ : ∃ z, z = sgnQ (x k) := ⟨_, rfl⟩
        have ez : decide (z < 0) = false := by
          rw [hz]
          by_cases h0 : x k = 0
          · rw [sgnQ_zero.2 h0]; rfl
          · rw [sgn_pos (by grind)]; rfl
        rw [← hz] at KSg
        have HGE := Lib.hid hge
        have HVS := Lib.hid vS
        have HB := Lib.hid hb
        have HME := Lib.hid (HMS.out k)
        clear hlo hz hge vS hb
        have hal : Below wr.heap.size wr (wr.alloc (.cells #[.bool s2, .slice A2 n2 c2, .slice B2 m2 d2] 30)) := (Below.refl _ _).alloc (Nat.le_refl _) _
        have HAL := Lib.hid hal
        clear hal
        (go_wp2_with fail; (with_reducible refine (KSg.out _ (by (skip); repeat' (first | (with_reducible exact Below.refl _ _) | (with_reducible assumption) | (with_reducible refine Below.alloc ?_ ?_ _) | (with_reducible refine Below.drew ?_) | (with_reducible refine below_drewN ?_ _) | (with_reducible refine Below.setCell ?_ ?_ _) | (with_reducible refine Below.trans ?_ (Below.mono (by with_reducible assumption) ?_)) | omega | (simp only [ZA, ZS, ZD, ZN]; omega) | go_size))).mono ?_); rintro e w3 ⟨rfl, hb3⟩; have hb3z := Below.size hb3; (try simp only [ZA, ZS, ZD, ZN] at hb3z); have hb3c0 := fun o => below_at hb3 (wr.heap.size) o (by first | omega | (simp only [ZA, ZS, ZD, ZN]; omega)); have hb3f0 := fun o => below_fr hb3 (wr.heap.size) o (by first | omega | (simp only [ZA, ZS, ZD, ZN]; omega)))
        have hB3 : Below wr.heap.size wr w3 := HAL.out.trans (hb3.mono (by simp))
        have t0 : w3.cell? ⟨wr.heap.size, 0, none⟩ = some (.bool s2) := by rw [hb3c0]; simp
        have t1 : w3.cell? ⟨wr.heap.size, 1, none⟩ = some (.slice A2 n2 c2) := by rw [hb3c0]; simp
        have t2 : w3.cell? ⟨wr.heap.size, 2, none⟩ = some (.slice B2 m2 d2) := by rw [hb3c0]; simp
        have v3 := HVS.out.below hB3
        have HV3 := Lib.hid v3
        have hbW3 : Below w.heap.size w w3 := hbW.trans (hB3.mono (by omega))
        have hbR3 : Below w1.heap.size w1 w3 := HB.out.trans (hB3.mono (by omega))
        obtain ⟨⟨s8, A8, n8, c8, B8, m8, d8, o0, o1, o2, r0⟩, hRB, hgz, hgf⟩ := v3
        have KA := Lib.hid (fun W (hb : Below w3.heap.size w3 W) => addQ ((r0.canQ hszk).below hb) (HQX.out.below (hbW3.trans (hb.mono hbW3.size))) (by omega) (by omega))
        clear hb3 hb3c0 hb3f0 hB3 r0 x0 x1 x2
        (go_wp2_with fail; (with_reducible refine (KA.out _ (by (skip); repeat' (first | (with_reducible exact Below.refl _ _) | (with_reducible assumption) | (with_reducible refine Below.alloc ?_ ?_ _) | (with_reducible refine Below.drew ?_) | (with_reducible refine below_drewN ?_ _) | (with_reducible refine Below.setCell ?_ ?_ _) | (with_reducible refine Below.trans ?_ (Below.mono (by with_reducible assumption) ?_)) | omega | (simp only [ZA, ZS, ZD, ZN]; omega) | go_size))).mono ?_); rintro e w4 ⟨⟨v4, rfl, own4⟩, hb4⟩; have hb4z := Below.size hb4; (try simp only [ZA, ZS, ZD, ZN] at hb4z); have hb4c0 := fun o => below_at hb4 (w1.heap.size) o (by first | omega | (simp only [ZA, ZS, ZD, ZN]; omega)); have hb4f0 := fun o => below_fr hb4 (w1.heap.size) o (by first | omega | (simp only [ZA, ZS, ZD, ZN]; omega)))
        obtain ⟨s9, A9, n9, c9, B9, m9, d9, rfl⟩ := own4.form
        have hgf4 : ∀ i, w4.frozen? ⟨w1.heap.size, i, none⟩ = false := fun i => by rw [hb4f0]; exact hgf i
        have hVP := (HV3.out.below hb4).put (own4.rs (b0 := 0))
        rw [← HME.out] at hVP
        have HVP := Lib.hid hVP
        have HBP := Lib.hid (below_set3 (hbR3.trans (hb4.mono hbR3.size)) (Nat.le_refl _) (.bool s9) (.slice A9 n9 c9) (.slice B9 m9 d9))
        have p0 : w4.cell? ⟨w1.heap.size, 0, none⟩ = some (.bool s8) := by rw [hb4c0]; exact o0
        have p1 : w4.cell? ⟨w1.heap.size, 1, none⟩ = some (.slice A8 n8 c8) := by rw [hb4c0]; exact o1
        have p2 : w4.cell? ⟨w1.heap.size, 2, none⟩ = some (.slice B8 m8 d8) := by rw [hb4c0]; exact o2
        clear hVP hb4 hb4c0 hb4f0 own4 o0 o1 o2
        go_wp2
        go_roundw
        case rel =>
          refine ⟨k + 1, by omega, by go_num, fun s hs => ?_, HVP.out, HBP.out⟩
          by_cases e : s = k
          · rw [e]; exact HGE.out
          · exact HAll.out s (by omega)
        case measure => simp [intOf]; omega
    · have hkn : k = c.nd := by omega
      subst hkn
      have HBYY := Lib.hid (HBY.out HAll.out)
      obtain ⟨wA, hwA⟩ : ∃ wA, wA = wr := ⟨_, rfl⟩
      rw [← hwA] at vS hb hbr hbW hz ⊢
      clear hwA
      have HVS := Lib.hid vS
      have HBA := Lib.hid hbr
      have HBWA := Lib.hid hbW
      have HOA : Hid (OwR wA (w.heap.size + 1) (some ⟨w.heap.size + 1, 0, none⟩) c.nd c.nd (can (NK 0))) := (HO1.out.below hb).congr fun s hs => by rw [HN0.out]
      obtain ⟨y0, y1, y2, y3⟩ := HPC.out _ hbr
      have hvz := vS.2.2.1
      have hgA : w.heap.size + 1 < wA.heap.size := by omega
      have HBLK := Lib.hid HOA.out.block.2
      clear vS hb hbr hbW
      go_wp2
      go_loopw [31] (fun i wr => ∃ k : Nat, k ≤ c.nm ∧ i = .int .i64 (k : Int) ∧ OwR wr (w.heap.size + 1) (some ⟨w.heap.size + 1, 0, none⟩) c.nd c.nd (can (NK k)) ∧ wA.grownBy wr (some (w.heap.size + 1))) (fun i _ => c.nm - (intOf i).toNat)
      case atStart => exact ⟨0, Nat.zero_le _, rfl, HOA.out, World.grownBy.refl wA _⟩
      case round =>
        clear y0 y1 y2 y3
        obtain ⟨k, hk, rfl, own, hgr⟩ := hrel
        have hz2 := hgr.size
        have hfz := own.frozen
        have hbw : Below w.heap.size w wr := HBWA.out.trans (below_of_row hgr (fun q hq => by have h2 : w.heap.size + 1 = q := (by injection hq); omega) (by omega))
        have hvS := HVS.out.grown hgr HBLK.out (by omega)
        by_cases hlt : k < c.nm
        · obtain ⟨bm, om, s1, A1, n1, c1, B1, m1, d1, rfl, hbm, g0, g1, g2, g3, g4, r1, hfn, htn, hft⟩ := HMV.out wr hbw k hlt
          obtain ⟨bx, ox, s2, A2, n2, c2, B2, m2, d2, rfl, hbx, v0, v1, v2, rf2⟩ := HV.out.at_ hfn
          have e0 := (hbw.cell (lt_of_cell v0)).trans v0
          have e1 := (hbw.cell (lt_of_cell v1)).trans v1
          have e2 := (hbw.cell (lt_of_cell v2)).trans v2
          obtain ⟨q1, q2⟩ := HSQ.out k hlt
          have hqv : valR (c.R k) = c.q k := rfl
          have qm := r1.rdq (L := M) (by omega) (by omega)
          rw [hqv] at qm
          have qf := ((show RdS w _ _ (canR (x (c.f k))) from rf2).kp (Kp.of_below hbw)).canQ (HXS.out (c.f k))
          have hX1 := HNS.out k hft
          have hS9 := HS2.out k hlt (c.f k)
          obtain ⟨s5, A5, n5, c5, B5, m5, d5, j0, j1, j2, r5⟩ := own.at_ hfn
          obtain ⟨s6, A6, n6, c6, B6, m6, d6, j3, j4, j5, r6⟩ := own.at_ htn
          have q5 := (show RdS wr _ _ (canR (NK k (c.f k))) from r5).canQ (HS3.out k hk _)
          have q6 := (show RdS wr _ _ (canR (NK k (c.t k))) from r6).canQ (HS3.out k hk _)
          obtain ⟨f, hf⟩ : ∃ f, f = c.f k := ⟨_, rfl⟩
          obtain ⟨tt, ht⟩ : ∃ tt, tt = c.t k := ⟨_, rfl⟩
          obtain ⟨q, hq⟩ : ∃ q, q = c.q k := ⟨_, rfl⟩
          rw [← hf] at g0 e0 e1 e2 hfn hX1 hft qf hS9 j0 j1 j2 q5
          rw [← ht] at g1 htn hX1 hft j3 j4 j5 q6
          rw [← hq] at hX1 qm hS9
          have K1 := Lib.hid (fun W (hb : Below wr.heap.size wr W) => mulQ (qf.below hb) (qm.below hb) (by omega) (by omega))
          have HX1 := Lib.hid hX1
          have HQ5 := Lib.hid q5
          have HQ6 := Lib.hid q6
          have HVS2 := Lib.hid hvS
          have HO := Lib.hid own
          have HGR := Lib.hid hgr
          clear hf ht hq hqv q1 q2 rf2 r1 r5 r6 v0 v1 v2 qm qf hX1 q5 q6 own hgr hvS
          have hki : (k : Int) < (c.nm : Int) := by omega
          have hk0 : (0 : Int) ≤ (k : Int) := by omega
          have hfi : (f : Int) < (c.nd : Int) := by omega
          have hf0 : (0 : Int) ≤ (f : Int) := by omega
          have hti : (tt : Int) < (c.nd : Int) := by omega
          have ht0 : (0 : Int) ≤ (tt : Int) := by omega
          have hbx9 : bx < wr.heap.size := by have := hbw.size; omega
          have hg9 : w.heap.size + 1 < wr.heap.size := by omega
          have ne9 : ¬ (w.heap.size + 1 = wr.heap.size) := by omega
          have ne8 : ¬ (wr.heap.size = w.heap.size + 1) := by omega
          (have ogc := fun o i => below_at ((Below.refl wr.heap.size wr).alloc (Nat.le_refl _) o) (w.heap.size + 1) i (by omega)); (have ogf := fun o i => below_fr ((Below.refl wr.heap.size wr).alloc (Nat.le_refl _) o) (w.heap.size + 1) i (by omega))
          (have ovvc := fun o i => below_at ((Below.refl wr.heap.size wr).alloc (Nat.le_refl _) o) (bx) i (by omega)); (have ovvf := fun o i => below_fr ((Below.refl wr.heap.size wr).alloc (Nat.le_refl _) o) (bx) i (by omega))
          go_upto_region 13 with fail
          go_cut [11] from 35 to 65 (fun p wx => Res13 (wr.alloc (.cells #[.int .i64 (f : Int), .int .i64 (tt : Int), .bool s1, .slice A1 n1 c1, .slice B1 m1 d1] 33)) (wr.heap.size + 1) (x f * q) p wx)
          case first =>
            go_region_held3 (fun W => W.cell? ⟨wr.heap.size, 0, none⟩ = some (.int .i64 (f : Int)) ∧ W.cell? ⟨wr.heap.size, 2, none⟩ = some (.bool s1) ∧ W.cell? ⟨wr.heap.size, 3, none⟩ = some (.slice A1 n1 c1) ∧ W.cell? ⟨wr.heap.size, 4, none⟩ = some (.slice B1 m1 d1) ∧ W.cell? ⟨bx, ox + f * 3, none⟩ = some (.bool s2) ∧ W.cell? ⟨bx, ox + f * 3 + 1, none⟩ = some (.slice A2 n2 c2) ∧ W.cell? ⟨bx, ox + f * 3 + 2, none⟩ = some (.slice B2 m2 d2)) (go_keep)
              (first | ((go_at_call 12; (with_reducible refine (K1.out _ (by (skip); repeat' (first | (with_reducible exact Below.refl _ _) | (with_reducible assumption) | (with_reducible refine Below.alloc ?_ ?_ _) | (with_reducible refine Below.drew ?_) | (with_reducible refine below_drewN ?_ _) | (with_reducible refine Below.setCell ?_ ?_ _) | (with_reducible refine Below.trans ?_ (Below.mono (by with_reducible assumption) ?_)) | omega | (simp only [ZA, ZS, ZD, ZN]; omega) | go_size))).mono ?_); rintro e w3 ⟨⟨v3, rfl, own3⟩, hb3⟩; have hb3z := Below.size hb3; (try simp only [ZA, ZS, ZD] at hb3z); have hb3c0 := fun o => below_at hb3 (wr.heap.size) o (by first | omega | (simp only [ZA, ZS, ZD]; omega)); have hb3f0 := fun o => below_fr hb3 (wr.heap.size) o (by first | omega | (simp only [ZA, ZS, ZD]; omega)); have hb3l0 : wr.heap.size < (w3).heap.size := (by omega); have hb3c1 := fun o => below_at hb3 (bx) o (by first | omega | (simp only [ZA, ZS, ZD]; omega)); have hb3f1 := fun o => below_fr hb3 (bx) o (by first | omega | (simp only [ZA, ZS, ZD]; omega)); have hb3l1 : bx < (w3).heap.size := (by omega); have hb3c2 := fun o => below_at hb3 (wr.heap.size + 1) o (by first | omega | (simp only [ZA, ZS, ZD]; omega)); have hb3f2 := fun o => below_fr hb3 (wr.heap.size + 1) o (by first | omega | (simp only [ZA, ZS, ZD]; omega)); have hb3l2 : wr.heap.size + 1 < (w3).heap.size := (by omega)); obtain ⟨s3, A3, n3, c3', B3, m3, d3, rfl⟩ := own3.form; have ne1 : ¬ (wr.heap.size + 1 = wr.heap.size) := (by omega); have ne2 : ¬ (wr.heap.size + 1 = bx) := (by omega); have ne5 : ¬ (wr.heap.size = wr.heap.size + 1) := (by omega)) | ((go_at_call 12; (with_reducible refine (K1.out _ (by (skip); repeat' (first | (with_reducible exact Below.refl _ _) | (with_reducible assumption) | (with_reducible refine Below.alloc ?_ ?_ _) | (with_reducible refine Below.drew ?_) | (with_reducible refine below_drewN ?_ _) | (with_reducible refine Below.setCell ?_ ?_ _) | (with_reducible refine Below.trans ?_ (Below.mono (by with_reducible assumption) ?_)) | omega | (simp only [ZA, ZS, ZD, ZN]; omega) | go_size))).mono ?_); rintro e w3 ⟨⟨v3, rfl, own3⟩, hb3⟩; have hb3z := Below.size hb3; (try simp only [ZA, ZS, ZD] at hb3z); have hb3c0 := fun o => below_at hb3 (wr.heap.size) o (by first | omega | (simp only [ZA, ZS, ZD]; omega)); have hb3f0 := fun o => below_fr hb3 (wr.heap.size) o (by first | omega | (simp only [ZA, ZS, ZD]; omega)); have hb3l0 : wr.heap.size < (w3).heap.size := (by omega); have hb3c1 := fun o => below_at hb3 (bx) o (by first | omega | (simp only [ZA, ZS, ZD]; omega)); have hb3f1 := fun o => below_fr hb3 (bx) o (by first | omega | (simp only [ZA, ZS, ZD]; omega)); have hb3l1 : bx < (w3).heap.size := (by omega)); obtain ⟨s3, A3, n3, c3', B3, m3, d3, rfl⟩ := own3.form) | fail)
            · go_wp2
              go_meet
              exact res13_new own3 (by have z0 := Below.size hb3; (try simp only [ZA, ZS, ZD, ZN] at z0 ⊢; skip); repeat' (first | (with_reducible exact Below.refl _ _) | (with_reducible assumption) | (with_reducible refine Below.alloc ?_ ?_ _) | (with_reducible refine Below.drew ?_) | (with_reducible refine below_drewN ?_ _) | (with_reducible refine Below.setCell ?_ ?_ _) | (with_reducible refine Below.trans ?_ (Below.mono (by with_reducible assumption) ?_)) | omega | (simp only [ZA, ZS, ZD, ZN]; omega) | go_size)) (by omega)
            · go_wp2
              go_meet
              have hB3 : RatB w3 (wr.heap.size + 1) := by
                have h := RatB.new (wr.alloc (.cells #[.int .i64 (f : Int), .int .i64 (tt : Int), .bool s1, .slice A1 n1 c1, .slice B1 m1 d1] 33)) #[.bool false, .slice none 0 0, .slice none 0 0]
                rw [World.size_alloc] at h
                exact RatB.below (w := ((wr.alloc (.cells #[.int .i64 (f : Int), .int .i64 (tt : Int), .bool s1, .slice A1 n1 c1, .slice B1 m1 d1] 33)).alloc (.cells #[.bool false, .slice none 0 0, .slice none 0 0] 30)).drew) h hb3 (by simp)
              exact res13_set (a' := .bool false) (b' := .slice none 0 0) (d' := .slice none 0 0) own3 (by have z0 := Below.size hb3; (try simp only [ZA, ZS, ZD, ZN] at z0 ⊢; skip); repeat' (first | (with_reducible exact Below.refl _ _) | (with_reducible assumption) | (with_reducible refine Below.alloc ?_ ?_ _) | (with_reducible refine Below.drew ?_) | (with_reducible refine below_drewN ?_ _) | (with_reducible refine Below.setCell ?_ ?_ _) | (with_reducible refine Below.trans ?_ (Below.mono (by with_reducible assumption) ?_)) | omega | (simp only [ZA, ZS, ZD, ZN]; omega) | go_size)) (by omega) (by omega) hB3 (by rw [hb3c2]; simp) (by rw [hb3c2]; simp) (by rw [hb3c2]; simp)
          case rest =>
            obtain ⟨o13, s4, A4, n4, c4, B4, m4, d4, rfl, ho1, ho2, k0, k1, k2, kS, hbc⟩ := hcut
            have hbz := hbc.size
            simp only [World.size_alloc] at hbz
            have hbr : Below wr.heap.size wr wc := ((Below.refl _ _).alloc (Nat.le_refl _) _).trans (hbc.mono (by omega))
            have K3 := Lib.hid (fun W (hb : Below wc.heap.size wc W) => subQ (HQ5.out.below (hbr.trans (hb.mono (by omega)))) ((kS.kp (Kp.of_below hb)).canQ hS9) (by omega) (by omega))
            have K4 := Lib.hid (fun W (hb : Below wc.heap.size wc W) => addQ (HQ6.out.below (hbr.trans (hb.mono (by omega)))) ((kS.kp (Kp.of_below hb)).canQ hS9) (by omega) (by omega))
            have p0 := (hbc.cell (p := ⟨wr.heap.size, 0, none⟩) (by show wr.heap.size < _; omega)).trans (by simp : (wr.alloc (.cells #[.int .i64 (f : Int), .int .i64 (tt : Int), .bool s1, .slice A1 n1 c1, .slice B1 m1 d1] 33)).cell? ⟨wr.heap.size, 0, none⟩ = some (.int .i64 (f : Int)))
            have p1 := (hbc.cell (p := ⟨wr.heap.size, 1, none⟩) (by show wr.heap.size < _; omega)).trans (by simp : (wr.alloc (.cells #[.int .i64 (f : Int), .int .i64 (tt : Int), .bool s1, .slice A1 n1 c1, .slice B1 m1 d1] 33)).cell? ⟨wr.heap.size, 1, none⟩ = some (.int .i64 (tt : Int)))
            have p2 := (hbr.cell (p := ⟨w.heap.size + 1, f * 3, none⟩) hg9).trans j0
            have p3 := (hbr.cell (p := ⟨w.heap.size + 1, f * 3 + 1, none⟩) hg9).trans j1
            have p4 := (hbr.cell (p := ⟨w.heap.size + 1, f * 3 + 2, none⟩) hg9).trans j2
            have p5 := (hbr.cell (p := ⟨w.heap.size + 1, tt * 3, none⟩) hg9).trans j3
            have p6 := (hbr.cell (p := ⟨w.heap.size + 1, tt * 3 + 1, none⟩) hg9).trans j4
            have p7 := (hbr.cell (p := ⟨w.heap.size + 1, tt * 3 + 2, none⟩) hg9).trans j5
            have p8 : ∀ i, wc.frozen? ⟨w.heap.size + 1, i, none⟩ = false := fun i => (hbr.frozen (p := ⟨w.heap.size + 1, i, none⟩) hg9).trans (hfz i)
            have i00 : ¬ (f * 3 = tt * 3) := by omega
            have i01 : ¬ (f * 3 = tt * 3 + 1) := by omega
            have i02 : ¬ (f * 3 = tt * 3 + 2) := by omega
            have i10 : ¬ (f * 3 + 1 = tt * 3) := by omega
            have i11 : ¬ (f * 3 + 1 = tt * 3 + 1) := by omega
            have i12 : ¬ (f * 3 + 1 = tt * 3 + 2) := by omega
            have i20 : ¬ (f * 3 + 2 = tt * 3) := by omega
            have i21 : ¬ (f * 3 + 2 = tt * 3 + 1) := by omega
            have i22 : ¬ (f * 3 + 2 = tt * 3 + 2) := by omega
            have ne1 : ¬ (w.heap.size + 1 = o13) := by omega
            have ne2 : ¬ (o13 = w.heap.size + 1) := by omega
            have HOC := Lib.hid (HO.out.below hbr)
            have HBC := Lib.hid hbr
            clear e0 e1 e2 g0 g1 g2 g3 g4 j0 j1 j2 j3 j4 j5 hfz ogc ogf ovvc ovvf kS hbc hbr
            go_wp2
            rw [ld_later 30 (.tmp 52), ld_later 30 (.tmp 59)]
            go_region_held3 (fun W => W.cell? ⟨wr.heap.size, 0, none⟩ = some (.int .i64 (f : Int)) ∧ W.cell? ⟨wr.heap.size, 1, none⟩ = some (.int .i64 (tt : Int)) ∧ W.cell? ⟨o13, 0, none⟩ = some (.bool s4) ∧ W.cell? ⟨o13, 1, none⟩ = some (.slice A4 n4 c4) ∧ W.cell? ⟨o13, 2, none⟩ = some (.slice B4 m4 d4)) (go_keep)
              (first | ((go_at_call 51; (with_reducible refine (K3.out _ (by (skip); repeat' (first | (with_reducible exact Below.refl _ _) | (with_reducible assumption) | (with_reducible refine Below.alloc ?_ ?_ _) | (with_reducible refine Below.drew ?_) | (with_reducible refine below_drewN ?_ _) | (with_reducible refine Below.setCell ?_ ?_ _) | (with_reducible refine Below.trans ?_ (Below.mono (by with_reducible assumption) ?_)) | omega | (simp only [ZA, ZS, ZD, ZN]; omega) | go_size))).mono ?_); rintro e w6 ⟨⟨v6, rfl, own6⟩, hb6⟩; have hb6z := Below.size hb6; (try simp only [ZA, ZS, ZD] at hb6z); have hb6c0 := fun o => below_at hb6 (w.heap.size + 1) o (by first | omega | (simp only [ZA, ZS, ZD]; omega)); have hb6f0 := fun o => below_fr hb6 (w.heap.size + 1) o (by first | omega | (simp only [ZA, ZS, ZD]; omega)); have hb6l0 : w.heap.size + 1 < (w6).heap.size := (by omega); have hb6c1 := fun o => below_at hb6 (wr.heap.size) o (by first | omega | (simp only [ZA, ZS, ZD]; omega)); have hb6f1 := fun o => below_fr hb6 (wr.heap.size) o (by first | omega | (simp only [ZA, ZS, ZD]; omega)); have hb6l1 : wr.heap.size < (w6).heap.size := (by omega); have hb6c2 := fun o => below_at hb6 (o13) o (by first | omega | (simp only [ZA, ZS, ZD]; omega)); have hb6f2 := fun o => below_fr hb6 (o13) o (by first | omega | (simp only [ZA, ZS, ZD]; omega)); have hb6l2 : o13 < (w6).heap.size := (by omega)); obtain ⟨s7, A7, n7, c7, B7, m7, d7, rfl⟩ := own6.form) | ((go_at_call 29; (with_reducible refine (K4.out _ (by have z0 := Below.size hb6; (try simp only [ZA, ZS, ZD, ZN] at z0 ⊢; skip); repeat' (first | (with_reducible exact Below.refl _ _) | (with_reducible assumption) | (with_reducible refine Below.alloc ?_ ?_ _) | (with_reducible refine Below.drew ?_) | (with_reducible refine below_drewN ?_ _) | (with_reducible refine Below.setCell ?_ ?_ _) | (with_reducible refine Below.trans ?_ (Below.mono (by with_reducible assumption) ?_)) | omega | (simp only [ZA, ZS, ZD, ZN]; omega) | go_size))).mono ?_); rintro e w7 ⟨⟨v7, rfl, own7⟩, hb7⟩; have hb7z := Below.size hb7; (try simp only [ZA, ZS, ZD] at hb7z); have hb7c0 := fun o => below_at hb7 (w.heap.size + 1) o (by first | omega | (simp only [ZA, ZS, ZD]; omega)); have hb7f0 := fun o => below_fr hb7 (w.heap.size + 1) o (by first | omega | (simp only [ZA, ZS, ZD]; omega)); have hb7l0 : w.heap.size + 1 < (w7).heap.size := (by omega); have hb7c1 := fun o => below_at hb7 (wr.heap.size) o (by first | omega | (simp only [ZA, ZS, ZD]; omega)); have hb7f1 := fun o => below_fr hb7 (wr.heap.size) o (by first | omega | (simp only [ZA, ZS, ZD]; omega)); have hb7l1 : wr.heap.size < (w7).heap.size := (by omega); have hb7c2 := fun o => below_at hb7 (o13) o (by first | omega | (simp only [ZA, ZS, ZD]; omega)); have hb7f2 := fun o => below_fr hb7 (o13) o (by first | omega | (simp only [ZA, ZS, ZD]; omega)); have hb7l2 : o13 < (w7).heap.size := (by omega)); obtain ⟨s8, A8, n8, c8, B8, m8, d8, rfl⟩ := own7.form) | ((go_at_call 29; (with_reducible refine (K4.out _ (by (skip); repeat' (first | (with_reducible exact Below.refl _ _) | (with_reducible assumption) | (with_reducible refine Below.alloc ?_ ?_ _) | (with_reducible refine Below.drew ?_) | (with_reducible refine below_drewN ?_ _) | (with_reducible refine Below.setCell ?_ ?_ _) | (with_reducible refine Below.trans ?_ (Below.mono (by with_reducible assumption) ?_)) | omega | (simp only [ZA, ZS, ZD, ZN]; omega) | go_size))).mono ?_); rintro e w7 ⟨⟨v7, rfl, own7⟩, hb7⟩; have hb7z := Below.size hb7; (try simp only [ZA, ZS, ZD] at hb7z); have hb7c0 := fun o => below_at hb7 (w.heap.size + 1) o (by first | omega | (simp only [ZA, ZS, ZD]; omega)); have hb7f0 := fun o => below_fr hb7 (w.heap.size + 1) o (by first | omega | (simp only [ZA, ZS, ZD]; omega)); have hb7l0 : w.heap.size + 1 < (w7).heap.size := (by omega); have hb7c1 := fun o => below_at hb7 (wr.heap.size) o (by first | omega | (simp only [ZA, ZS, ZD]; omega)); have hb7f1 := fun o => below_fr hb7 (wr.heap.size) o (by first | omega | (simp only [ZA, ZS, ZD]; omega)); have hb7l1 : wr.heap.size < (w7).heap.size := (by omega); have hb7c2 := fun o => below_at hb7 (o13) o (by first | omega | (simp only [ZA, ZS, ZD]; omega)); have hb7f2 := fun o => below_fr hb7 (o13) o (by first | omega | (simp only [ZA, ZS, ZD]; omega)); have hb7l2 : o13 < (w7).heap.size := (by omega)); obtain ⟨s8, A8, n8, c8, B8, m8, d8, rfl⟩ := own7.form) | ((go_at_call 51; (with_reducible refine (K3.out _ (by have z0 := Below.size hb7; (try simp only [ZA, ZS, ZD, ZN] at z0 ⊢; skip); repeat' (first | (with_reducible exact Below.refl _ _) | (with_reducible assumption) | (with_reducible refine Below.alloc ?_ ?_ _) | (with_reducible refine Below.drew ?_) | (with_reducible refine below_drewN ?_ _) | (with_reducible refine Below.setCell ?_ ?_ _) | (with_reducible refine Below.trans ?_ (Below.mono (by with_reducible assumption) ?_)) | omega | (simp only [ZA, ZS, ZD, ZN]; omega) | go_size))).mono ?_); rintro e w6 ⟨⟨v6, rfl, own6⟩, hb6⟩; have hb6z := Below.size hb6; (try simp only [ZA, ZS, ZD] at hb6z); have hb6c0 := fun o => below_at hb6 (w.heap.size + 1) o (by first | omega | (simp only [ZA, ZS, ZD]; omega)); have hb6f0 := fun o => below_fr hb6 (w.heap.size + 1) o (by first | omega | (simp only [ZA, ZS, ZD]; omega)); have hb6l0 : w.heap.size + 1 < (w6).heap.size := (by omega); have hb6c1 := fun o => below_at hb6 (wr.heap.size) o (by first | omega | (simp only [ZA, ZS, ZD]; omega)); have hb6f1 := fun o => below_fr hb6 (wr.heap.size) o (by first | omega | (simp only [ZA, ZS, ZD]; omega)); have hb6l1 : wr.heap.size < (w6).heap.size := (by omega); have hb6c2 := fun o => below_at hb6 (o13) o (by first | omega | (simp only [ZA, ZS, ZD]; omega)); have hb6f2 := fun o => below_fr hb6 (o13) o (by first | omega | (simp only [ZA, ZS, ZD]; omega)); have hb6l2 : o13 < (w6).heap.size := (by omega)); obtain ⟨s7, A7, n7, c7, B7, m7, d7, rfl⟩ := own6.form) | fail)
            all_goals
              first
              | (have hb9 : Below wc.heap.size wc w7 := (by have z0 := Below.size hb6; have z1 := Below.size hb7; (try simp only [ZA, ZS, ZD, ZN] at z0 z1 ⊢; skip); repeat' (first | (with_reducible exact Below.refl _ _) | (with_reducible assumption) | (with_reducible refine Below.alloc ?_ ?_ _) | (with_reducible refine Below.drew ?_) | (with_reducible refine below_drewN ?_ _) | (with_reducible refine Below.setCell ?_ ?_ _) | (with_reducible refine Below.trans ?_ (Below.mono (by with_reducible assumption) ?_)) | omega | (simp only [ZA, ZS, ZD, ZN]; omega) | go_size))
                 have ow := HOC.out.below hb9
                 have o4 := ow.set hfn ((own6.below hb7).rs (b0 := w.heap.size + 1))
                 have o5 := o4.1.set htn ((own7.rs (b0 := w.heap.size + 1)).kp (ow.kp o4.2))
                 have ho5 := o5.1
                 rw [upd_can, upd_can, ← HX1.out] at ho5
                 have hgt := grown_trans HGR.out (grown_trans (grown_of_below (HBC.out.trans (hb9.mono (by omega))) _) (grown_trans o4.2 o5.2))
                 have HO5 := Lib.hid ho5
                 have HGT := Lib.hid hgt
                 clear ow o4 o5 ho5 hgt
                 go_wp2
                 go_roundw
                 case rel => exact ⟨k + 1, by omega, by go_num, HO5.out, HGT.out⟩
                 case measure => simp [intOf]; omega)
              | (have hb9 : Below wc.heap.size wc w6 := (by have z0 := Below.size hb6; have z1 := Below.size hb7; (try simp only [ZA, ZS, ZD, ZN] at z0 z1 ⊢; skip); repeat' (first | (with_reducible exact Below.refl _ _) | (with_reducible assumption) | (with_reducible refine Below.alloc ?_ ?_ _) | (with_reducible refine Below.drew ?_) | (with_reducible refine below_drewN ?_ _) | (with_reducible refine Below.setCell ?_ ?_ _) | (with_reducible refine Below.trans ?_ (Below.mono (by with_reducible assumption) ?_)) | omega | (simp only [ZA, ZS, ZD, ZN]; omega) | go_size))
                 have ow := HOC.out.below hb9
                 have o4 := ow.set hfn (own6.rs (b0 := w.heap.size + 1))
                 have o5 := o4.1.set htn (((own7.below hb6).rs (b0 := w.heap.size + 1)).kp (ow.kp o4.2))
                 have ho5 := o5.1
                 rw [upd_can, upd_can, ← HX1.out] at ho5
                 have hgt := grown_trans HGR.out (grown_trans (grown_of_below (HBC.out.trans (hb9.mono (by omega))) _) (grown_trans o4.2 o5.2))
                 have HO5 := Lib.hid ho5
                 have HGT := Lib.hid hgt
                 clear ow o4 o5 ho5 hgt
                 go_wp2
                 go_roundw
                 case rel => exact ⟨k + 1, by omega, by go_num, HO5.out, HGT.out⟩
                 case measure => simp [intOf]; omega)
        · have hkm : k = c.nm := by omega
          subst hkm
          have hra := own.ra
          have HRA := Lib.hid hra
          have HBW := Lib.hid hbw
          obtain ⟨⟨s0, A4, n4, c4, B4, m4, d4, o0, o1, o2, r0⟩, hRB, hgz, hgf⟩ := hvS
          have qs := r0.canQ (HS1.out c.nd (Nat.le_refl _))
          have KCm : Hid (∀ W b v, Below wr.heap.size wr W → OwQ W b v ((1 : Nat) : Rat) → Calls Tryz.prog 17 #[rv s0 A4 n4 c4 B4 m4 d4, v] W fun e w' => e = .returned (.int .i64 (sgnQ (SM c.nd - 1))) ∧ Below W.heap.size W w') := fun W b v hb hv => cmpQ (qs.below hb) (hv.rq (L := M) (Sz.one (by omega))) (by omega) (by omega)
          have hdead : ¬ c.nm < c.nm := by omega
          clear hra own hgr hfz r0 qs
          by_cases hS1 : SM c.nd = 1
          · have ez : sgnQ (SM c.nd - 1) = 0 := by rw [hS1]; decide +kernel
            rw [ez] at KCm
            have HT := Lib.hid (HBYY.out hS1)
            have KZ : Hid (∀ W, Below wr.heap.size wr W → Calls Tryz.prog 76 #[.slice (some ⟨w.heap.size + 1, 0, none⟩) c.nd c.nd, .func (.func 108) #[] #[]] W fun e w' => e = .returned (.bool (!allZ c.nd (NK c.nm))) ∧ Below W.heap.size W w') := fun W hb => KC.out W _ c.nd _ (HRA.out.below hb)
            obtain ⟨aZ, haZ⟩ : ∃ aZ, aZ = allZ c.nd (NK c.nm) := ⟨_, rfl⟩
            rw [← haZ] at KZ HT
            clear hS1 ez haZ KC HBYY
            go_wp2
            (refine wp_region_held_drew (S := (fun W => W.cell? ⟨w1.heap.size, 0, none⟩ = some (.bool s0) ∧ W.cell? ⟨w1.heap.size, 1, none⟩ = some (.slice A4 n4 c4) ∧ W.cell? ⟨w1.heap.size, 2, none⟩ = some (.slice B4 m4 d4))) (by kernel_rfl) ?_ (fun hHeld => ?_); focus ((try dsimp only); (first | done | go_keep)))
            (refine wpAnyH_take (i := 0) (oi := { dst := some 66, op := _, type := _, pos := _, after := _, guard := _ }) (v := ?_) rfl (by kernel_rfl) (by kernel_rfl) (by kernel_rfl) (fun _ _ _ h => h) (Or.inl ⟨by kernel_rfl, ?_⟩) (by assumption) ?_; rotate_left; (focus (intro w hSw; (try dsimp only at hSw); go_simp; (try with_reducible rfl))); (try simp only [Act.put, List.setIfInBounds_toArray, List.set_cons_zero, List.set_cons_succ]))
            (refine wpAnyH_ready (rs := [1]) (by kernel_rfl) (by simp) ?_; refine AllReadyH.cons (o := { dst := some 67, op := _, type := _, pos := _, after := _, guard := _ }) rfl (fun K hK => ?_) AllReadyH.nil; go_simp)
            go_wp2_with (first | ((go_at_call 11; (with_reducible refine (K0.out _).mono ?_); rintro e w7 ⟨⟨v7, rfl, own7⟩, hb7⟩; have hb7z := Below.size hb7; (try simp only [ZA, ZS, ZD] at hb7z); have hb7c0 := fun o => below_at hb7 (w1.heap.size) o (by first | omega | (simp only [ZA, ZS, ZD]; omega)); have hb7f0 := fun o => below_fr hb7 (w1.heap.size) o (by first | omega | (simp only [ZA, ZS, ZD]; omega)); have hb7l0 : w1.heap.size < (w7).heap.size := (by omega)); obtain ⟨s9, A9, n9, c9, B9, m9, d9, rfl⟩ := own7.form) | fail)
            (refine hK.out _ _ ?_ (fun hHeld2 => ?_); (focus ((try dsimp only); (first | done | go_keep))); clear hK K hHeld; revert hHeld2; intro hHeld; (try simp only [Act.put, List.setIfInBounds_toArray, List.set_cons_zero, List.set_cons_succ]))
            (refine wpAnyH_ready (rs := [2]) (by kernel_rfl) (by simp) ?_; refine AllReadyH.cons (o := { dst := some 68, op := _, type := _, pos := _, after := _, guard := _ }) rfl (fun K hK => ?_) AllReadyH.nil; go_simp)
            go_wp2_with (first | ((go_at_call 17; (with_reducible refine (KCm.out _ _ _ (by have z0 := Below.size hb7; (try simp only [ZA, ZS, ZD, ZN] at z0 ⊢; skip); repeat' (first | (with_reducible exact Below.refl _ _) | (with_reducible assumption) | (with_reducible refine Below.alloc ?_ ?_ _) | (with_reducible refine Below.drew ?_) | (with_reducible refine below_drewN ?_ _) | (with_reducible refine Below.setCell ?_ ?_ _) | (with_reducible refine Below.trans ?_ (Below.mono (by with_reducible assumption) ?_)) | omega | (simp only [ZA, ZS, ZD, ZN]; omega) | go_size)) own7).mono ?_); rintro e w8 ⟨rfl, hb8⟩; have hb8z := Below.size hb8; (try simp only [ZA, ZS, ZD] at hb8z); have hb8c0 := fun o => below_at hb8 (w1.heap.size) o (by first | omega | (simp only [ZA, ZS, ZD]; omega)); have hb8f0 := fun o => below_fr hb8 (w1.heap.size) o (by first | omega | (simp only [ZA, ZS, ZD]; omega)); have hb8l0 : w1.heap.size < (w8).heap.size := (by omega))) | fail)
            (refine hK.out _ _ ?_ (fun hHeld2 => ?_); (focus ((try dsimp only); (first | done | go_keep))); clear hK K hHeld; revert hHeld2; intro hHeld; (try simp only [Act.put, List.setIfInBounds_toArray, List.set_cons_zero, List.set_cons_succ]))
            (refine wpAnyH_take (i := 3) (oi := { dst := some 69, op := _, type := _, pos := _, after := _, guard := _ }) (v := ?_) rfl (by kernel_rfl) (by kernel_rfl) (by kernel_rfl) (fun _ _ _ h => h) (Or.inl ⟨by kernel_rfl, ?_⟩) (by assumption) ?_; rotate_left; (focus (intro w hSw; (try dsimp only at hSw); go_simp; (try with_reducible rfl))); (try simp only [Act.put, List.setIfInBounds_toArray, List.set_cons_zero, List.set_cons_succ]))
            (refine wpAnyH_take (i := 4) (oi := { dst := some 70, op := _, type := _, pos := _, after := _, guard := _ }) (v := ?_) rfl (by kernel_rfl) (by kernel_rfl) (by kernel_rfl) (fun _ _ _ h => h) (Or.inl ⟨by kernel_rfl, ?_⟩) (by assumption) ?_; rotate_left; (focus (intro w hSw; (try dsimp only at hSw); go_simp; (try with_reducible rfl))); (try simp only [Act.put, List.setIfInBounds_toArray, List.set_cons_zero, List.set_cons_succ]))
            (refine wpAnyH_take (i := 5) (oi := { dst := some 71, op := _, type := _, pos := _, after := _, guard := _ }) (v := ?_) rfl (by kernel_rfl) (by kernel_rfl) (by kernel_rfl) (fun _ _ _ h => h) (Or.inl ⟨by kernel_rfl, ?_⟩) (by assumption) ?_; rotate_left; (focus (intro w hSw; (try dsimp only at hSw); go_simp; (try with_reducible rfl))); (try simp only [Act.put, List.setIfInBounds_toArray, List.set_cons_zero, List.set_cons_succ]))
            (refine wpAnyH_ready (rs := [6]) (by kernel_rfl) (by simp) ?_; refine AllReadyH.cons (o := { dst := some 72, op := _, type := _, pos := _, after := _, guard := _ }) rfl (fun K hK => ?_) AllReadyH.nil; go_simp)
            go_wp2_with (first | ((go_at_call 76; (with_reducible refine (KZ.out _ (by have z0 := Below.size hb7; have z1 := Below.size hb8; (try simp only [ZA, ZS, ZD, ZN] at z0 z1 ⊢; skip); repeat' (first | (with_reducible exact Below.refl _ _) | (with_reducible assumption) | (with_reducible refine Below.alloc ?_ ?_ _) | (with_reducible refine Below.drew ?_) | (with_reducible refine below_drewN ?_ _) | (with_reducible refine Below.setCell ?_ ?_ _) | (with_reducible refine Below.trans ?_ (Below.mono (by with_reducible assumption) ?_)) | omega | (simp only [ZA, ZS, ZD, ZN]; omega) | go_size))).mono ?_); rintro e w9 ⟨rfl, hb9⟩; have hb9z := Below.size hb9; (try simp only [ZA, ZS, ZD] at hb9z); have hb9c0 := fun o => below_at hb9 (w1.heap.size) o (by first | omega | (simp only [ZA, ZS, ZD]; omega)); have hb9f0 := fun o => below_fr hb9 (w1.heap.size) o (by first | omega | (simp only [ZA, ZS, ZD]; omega)); have hb9l0 : w1.heap.size < (w9).heap.size := (by omega))) | fail)
            (refine hK.out _ _ ?_ (fun hHeld2 => ?_); (focus ((try dsimp only); (first | done | go_keep))); clear hK K hHeld; revert hHeld2; intro hHeld; (try simp only [Act.put, List.setIfInBounds_toArray, List.set_cons_zero, List.set_cons_succ]))
            (refine wpAnyH_take (i := 7) (oi := { dst := some 73, op := _, type := _, pos := _, after := _, guard := _ }) (v := ?_) rfl (by kernel_rfl) (by kernel_rfl) (by kernel_rfl) (fun _ _ _ h => h) (Or.inl ⟨by kernel_rfl, ?_⟩) (by assumption) ?_; rotate_left; (focus (intro w hSw; (try dsimp only at hSw); go_simp; (try with_reducible rfl))); (try simp only [Act.put, List.setIfInBounds_toArray, List.set_cons_zero, List.set_cons_succ]))
            (refine wpAnyH_take (i := 8) (oi := { dst := some 74, op := _, type := _, pos := _, after := _, guard := _ }) (v := ?_) rfl (by kernel_rfl) (by kernel_rfl) (by kernel_rfl) (fun _ _ _ h => h) (Or.inl ⟨by kernel_rfl, ?_⟩) (by assumption) ?_; rotate_left; (focus (intro w hSw; (try dsimp only at hSw); go_simp; (try with_reducible rfl))); (try simp only [Act.put, List.setIfInBounds_toArray, List.set_cons_zero, List.set_cons_succ]))
            (refine wpAnyH_take (i := 9) (oi := { dst := some 4, op := _, type := _, pos := _, after := _, guard := _ }) (v := ?_) rfl (by kernel_rfl) (by kernel_rfl) (by kernel_rfl) (fun _ _ _ h => h) (Or.inl ⟨by kernel_rfl, ?_⟩) (by assumption) ?_; rotate_left; (focus (intro w hSw; (try dsimp only at hSw); go_simp; (try with_reducible rfl))); (try simp only [Act.put, List.setIfInBounds_toArray, List.set_cons_zero, List.set_cons_succ]))
            (refine wpAnyH_done (by kernel_rfl) ?_ _; clear hHeld)
            all_goals
              have hbn : Below wr.heap.size wr w9 := (by have z0 := Below.size hb7; have z1 := Below.size hb8; have z2 := Below.size hb9; (try simp only [ZA, ZS, ZD, ZN] at z0 z1 z2 ⊢; skip); repeat' (first | (with_reducible exact Below.refl _ _) | (with_reducible assumption) | (with_reducible refine Below.alloc ?_ ?_ _) | (with_reducible refine Below.drew ?_) | (with_reducible refine below_drewN ?_ _) | (with_reducible refine Below.setCell ?_ ?_ _) | (with_reducible refine Below.trans ?_ (Below.mono (by with_reducible assumption) ?_)) | omega | (simp only [ZA, ZS, ZD, ZN]; omega) | go_size))
              have HBn := Lib.hid (HBW.out.trans (hbn.mono (by omega)))
              clear hbn
              go_wp2
              go_ret
              exact ⟨by rw [HT.out]; simp, HBn.out⟩
          · obtain ⟨z, hz⟩ : ∃ z, z = sgnQ (SM c.nd - 1) := ⟨_, rfl⟩
            have ez : (z == 0) = false := by
              rw [hz, beq_eq_false_iff_ne]
              exact fun e => hS1 (by have := sgnQ_zero.1 e; grind)
            rw [← hz] at KCm
            have HT := Lib.hid (HBS.out hS1)
            clear hS1 hz KC HBYY
            go_wp2
            (refine wp_region_held_drew (S := (fun W => W.cell? ⟨w1.heap.size, 0, none⟩ = some (.bool s0) ∧ W.cell? ⟨w1.heap.size, 1, none⟩ = some (.slice A4 n4 c4) ∧ W.cell? ⟨w1.heap.size, 2, none⟩ = some (.slice B4 m4 d4))) (by kernel_rfl) ?_ (fun hHeld => ?_); focus ((try dsimp only); (first | done | go_keep)))
            (refine wpAnyH_take (i := 0) (oi := { dst := some 66, op := _, type := _, pos := _, after := _, guard := _ }) (v := ?_) rfl (by kernel_rfl) (by kernel_rfl) (by kernel_rfl) (fun _ _ _ h => h) (Or.inl ⟨by kernel_rfl, ?_⟩) (by assumption) ?_; rotate_left; (focus (intro w hSw; (try dsimp only at hSw); go_simp; (try with_reducible rfl))); (try simp only [Act.put, List.setIfInBounds_toArray, List.set_cons_zero, List.set_cons_succ]))
            (refine wpAnyH_ready (rs := [1]) (by kernel_rfl) (by simp) ?_; refine AllReadyH.cons (o := { dst := some 67, op := _, type := _, pos := _, after := _, guard := _ }) rfl (fun K hK => ?_) AllReadyH.nil; go_simp)
            go_wp2_with (first | ((go_at_call 11; (with_reducible refine (K0.out _).mono ?_); rintro e w7 ⟨⟨v7, rfl, own7⟩, hb7⟩; have hb7z := Below.size hb7; (try simp only [ZA, ZS, ZD] at hb7z); have hb7c0 := fun o => below_at hb7 (w1.heap.size) o (by first | omega | (simp only [ZA, ZS, ZD]; omega)); have hb7f0 := fun o => below_fr hb7 (w1.heap.size) o (by first | omega | (simp only [ZA, ZS, ZD]; omega)); have hb7l0 : w1.heap.size < (w7).heap.size := (by omega)); obtain ⟨s9, A9, n9, c9, B9, m9, d9, rfl⟩ := own7.form) | fail)
            (refine hK.out _ _ ?_ (fun hHeld2 => ?_); (focus ((try dsimp only); (first | done | go_keep))); clear hK K hHeld; revert hHeld2; intro hHeld; (try simp only [Act.put, List.setIfInBounds_toArray, List.set_cons_zero, List.set_cons_succ]))
            (refine wpAnyH_ready (rs := [2]) (by kernel_rfl) (by simp) ?_; refine AllReadyH.cons (o := { dst := some 68, op := _, type := _, pos := _, after := _, guard := _ }) rfl (fun K hK => ?_) AllReadyH.nil; go_simp)
            go_wp2_with (first | ((go_at_call 17; (with_reducible refine (KCm.out _ _ _ (by have z0 := Below.size hb7; (try simp only [ZA, ZS, ZD, ZN] at z0 ⊢; skip); repeat' (first | (with_reducible exact Below.refl _ _) | (with_reducible assumption) | (with_reducible refine Below.alloc ?_ ?_ _) | (with_reducible refine Below.drew ?_) | (with_reducible refine below_drewN ?_ _) | (with_reducible refine Below.setCell ?_ ?_ _) | (with_reducible refine Below.trans ?_ (Below.mono (by with_reducible assumption) ?_)) | omega | (simp only [ZA, ZS, ZD, ZN]; omega) | go_size)) own7).mono ?_); rintro e w8 ⟨rfl, hb8⟩; have hb8z := Below.size hb8; (try simp only [ZA, ZS, ZD] at hb8z); have hb8c0 := fun o => below_at hb8 (w1.heap.size) o (by first | omega | (simp only [ZA, ZS, ZD]; omega)); have hb8f0 := fun o => below_fr hb8 (w1.heap.size) o (by first | omega | (simp only [ZA, ZS, ZD]; omega)); have hb8l0 : w1.heap.size < (w8).heap.size := (by omega))) | fail)
            (refine hK.out _ _ ?_ (fun hHeld2 => ?_); (focus ((try dsimp only); (first | done | go_keep))); clear hK K hHeld; revert hHeld2; intro hHeld; (try simp only [Act.put, List.setIfInBounds_toArray, List.set_cons_zero, List.set_cons_succ]))
            (refine wpAnyH_take (i := 3) (oi := { dst := some 69, op := _, type := _, pos := _, after := _, guard := _ }) (v := ?_) rfl (by kernel_rfl) (by kernel_rfl) (by kernel_rfl) (fun _ _ _ h => h) (Or.inl ⟨by kernel_rfl, ?_⟩) (by assumption) ?_; rotate_left; (focus (intro w hSw; (try dsimp only at hSw); go_simp; (try with_reducible rfl))); (try simp only [Act.put, List.setIfInBounds_toArray, List.set_cons_zero, List.set_cons_succ]))
            (refine wpAnyH_take (i := 4) (oi := { dst := some 70, op := _, type := _, pos := _, after := _, guard := _ }) (v := ?_) rfl (by kernel_rfl) (by kernel_rfl) (by kernel_rfl) (fun _ _ _ h => h) (Or.inl ⟨by kernel_rfl, ?_⟩) (by assumption) ?_; rotate_left; (focus (intro w hSw; (try dsimp only at hSw); go_simp; (try with_reducible rfl))); (try simp only [Act.put, List.setIfInBounds_toArray, List.set_cons_zero, List.set_cons_succ]))
            (refine wpAnyH_take (i := 5) (oi := { dst := some 71, op := _, type := _, pos := _, after := _, guard := _ }) (v := undef) rfl (by kernel_rfl) (by kernel_rfl) (by kernel_rfl) (fun _ _ _ h => h) (Or.inr ⟨by kernel_rfl, rfl⟩) (by assumption) ?_; (try simp only [Act.put, List.setIfInBounds_toArray, List.set_cons_zero, List.set_cons_succ]))
            (refine wpAnyH_take (i := 6) (oi := { dst := some 72, op := _, type := _, pos := _, after := _, guard := _ }) (v := undef) rfl (by kernel_rfl) (by kernel_rfl) (by kernel_rfl) (fun _ _ _ h => h) (Or.inr ⟨by kernel_rfl, rfl⟩) (by assumption) ?_; (try simp only [Act.put, List.setIfInBounds_toArray, List.set_cons_zero, List.set_cons_succ]))
            (refine wpAnyH_take (i := 7) (oi := { dst := some 73, op := _, type := _, pos := _, after := _, guard := _ }) (v := undef) rfl (by kernel_rfl) (by kernel_rfl) (by kernel_rfl) (fun _ _ _ h => h) (Or.inr ⟨by kernel_rfl, rfl⟩) (by assumption) ?_; (try simp only [Act.put, List.setIfInBounds_toArray, List.set_cons_zero, List.set_cons_succ]))
            (refine wpAnyH_take (i := 8) (oi := { dst := some 74, op := _, type := _, pos := _, after := _, guard := _ }) (v := ?_) rfl (by kernel_rfl) (by kernel_rfl) (by kernel_rfl) (fun _ _ _ h => h) (Or.inl ⟨by kernel_rfl, ?_⟩) (by assumption) ?_; rotate_left; (focus (intro w hSw; (try dsimp only at hSw); go_simp; (try with_reducible rfl))); (try simp only [Act.put, List.setIfInBounds_toArray, List.set_cons_zero, List.set_cons_succ]))
            (refine wpAnyH_take (i := 9) (oi := { dst := some 4, op := _, type := _, pos := _, after := _, guard := _ }) (v := ?_) rfl (by kernel_rfl) (by kernel_rfl) (by kernel_rfl) (fun _ _ _ h => h) (Or.inl ⟨by kernel_rfl, ?_⟩) (by assumption) ?_; rotate_left; (focus (intro w hSw; (try dsimp only at hSw); go_simp; (try with_reducible rfl))); (try simp only [Act.put, List.setIfInBounds_toArray, List.set_cons_zero, List.set_cons_succ]))
            (refine wpAnyH_done (by kernel_rfl) ?_ _; clear hHeld)
            all_goals
              have hbn : Below wr.heap.size wr w8 := (by have z0 := Below.size hb7; have z1 := Below.size hb8; (try simp only [ZA, ZS, ZD, ZN] at z0 z1 ⊢; skip); repeat' (first | (with_reducible exact Below.refl _ _) | (with_reducible assumption) | (with_reducible refine Below.alloc ?_ ?_ _) | (with_reducible refine Below.drew ?_) | (with_reducible refine below_drewN ?_ _) | (with_reducible refine Below.setCell ?_ ?_ _) | (with_reducible refine Below.trans ?_ (Below.mono (by with_reducible assumption) ?_)) | omega | (simp only [ZA, ZS, ZD, ZN]; omega) | go_size))
              have HBn := Lib.hid (HBW.out.trans (hbn.mono (by omega)))
              clear hbn
              go_wp2
              go_ret
              exact ⟨by rw [HT.out]; rfl, HBn.out⟩
end Go.Proofs.YtmebdlilbnadgaaGreatDoor
