/- Contracts of functions and lemmas, used by the proofs of the given statements. No condition beyond those that each lemma names. -/
import Derived.Test.YtmebdlilbnadgaaGreatDoorStaAw
import Derived.Test.YtmebdlilbnadgaaGreatDoorStaRd
import Derived.Test.YtmebdlilbnadgaaGreatDoorStaZ
import Derived.Test.YtmebdlilbnadgaaGreatDoorJLinY
import Derived.Test.YtmebdlilbnadgaaGreatDoorJStaW1
import Derived.Test.YtmebdlilbnadgaaGreatDoorStaW3
import Derived.Test.YtmebdlilbnadgaaGreatDoorLinX
import Derived.Test.YtmebdlilbnadgaaGreatDoorDetW
import Derived.Test.YtmebdlilbnadgaaGreatDoorLawSt4
namespace Go.Proofs.YtmebdlilbnadgaaGreatDoor
open Go.RowKit
set_option linter.unusedSimpArgs false
set_option linter.unusedVariables false
set_option maxRecDepth 20000
attribute [local irreducible] nv wp win plainB validR valR canR mvE chkM codeC spr sprN chg cnt cntB ixB kept netS sumN dsum floG staX
/-! ## StationaryFlows -/
/-- one of the first k is below 0 -/
def lowN (x : Nat → Rat) : Nat → Bool
  | 0 => false
  | k + 1 => lowN x k || decide (x k < 0)
theorem lowN_no {x : Nat → Rat} : ∀ {k : Nat}, lowN x k = false → ∀ s, s < k → 0 ≤ x s
  | k + 1, h, s, hs => by
    unfold lowN at h
    rw [Bool.or_eq_false_iff] at h
    by_cases e : s = k
    · rw [e]; exact Rat.not_lt.1 (of_decide_eq_false h.2)
    · exact lowN_no h.1 s (by omega)
theorem flows_bal {c : Chn} {x : Nat → Rat} (ok : c.Ok) (hd : c.detB x = true) (hl : lowN x c.nd = false) (hs : sumN x c.nd = 1) : c.balB x = true :=
  Chn.bal_yes ⟨lowN_no hl, hs, Chn.det_net ok hd⟩
theorem flows_back {c : Chn} {x : Nat → Rat} (ok : c.Ok) (h : c.balB x = true) : c.frq x c.nm = floG (fun k => c.D (c.f k) && !c.D (c.t k)) c.f c.q x c.nm := by
  unfold Chn.frq
  rw [floG_sum, floG_sum]
  exact flow_back (fun k hk => ⟨(Chn.mvA ok k hk).1, (Chn.mvA ok k hk).2.1⟩) (Chn.bal_ok h).2.2
attribute [local irreducible] lowN
set_option maxHeartbeats 32000000 in
theorem stationaryFlows_law {w : World} {AM AD AV : Option Addr} {cm cd n ca : Nat} {c : Chn} {R : Nat → Rw} (h : ChI w w.heap.size AM cm AD cd c) (hv : RowA w w.heap.size AV n R) :
    Calls Tryz.prog 6 #[cv c.st c.sr AM c.nm cm AD c.nd cd, .slice AV n ca] w fun e w' => e = .returned (.bool true) ∧ Below w.heap.size w w' := by
  have KF := Lib.hid (fun W (hb : Below w.heap.size w W) => valid52_any (h.below hb))
  have KB := Lib.hid (fun W (hb : Below w.heap.size w W) => brief52_any (c := ca) (hv.below hb))
  have KE := Lib.hid (fun (hf : FewP c) (h6 : Brief6 n R) W (hb : Below w.heap.size w W) => rerr52_any (ca := ca) (h.below hb) (hf.small h).sizP.ch ((hv.below hb).up hb.size) h6.bigS (by have := h6.1; omega))
  have hbA : Below w.heap.size w (w.alloc (.cells #[.int .i64 c.st, .int .i64 c.sr, .slice AM c.nm cm, .slice AD c.nd cd] 25)) := (Below.refl _ _).alloc (Nat.le_refl _) _
  have HBA := Lib.hid hbA
  have HI := Lib.hid h
  have HRV := Lib.hid hv
  clear h hv hbA
  go_enter Tryz.func6, Tryz.ntmps6
  (go_wp2_with fail; (with_reducible refine (KF.out _ HBA.out).mono ?_); rintro e w1 ⟨⟨bb, rfl, hbb⟩, hb1⟩; have hb1z := Below.size hb1; (try simp only [ZA, ZS, ZD, ZN] at hb1z); have hb1c0 := fun o => below_at hb1 (w.heap.size) o (by first | omega | (simp only [ZA, ZS, ZD, ZN]; omega)); have hb1f0 := fun o => below_fr hb1 (w.heap.size) o (by first | omega | (simp only [ZA, ZS, ZD, ZN]; omega)))
  have hB1 : Below w.heap.size w w1 := HBA.out.trans (hb1.mono (by simp))
  cases bb with
  | false =>
    clear hbb
    (go_wp2_with fail; (with_reducible refine (awake52_any _).mono ?_); rintro e w2 ⟨rfl, hb2⟩; have hb2z := Below.size hb2; (try simp only [ZA, ZS, ZD, ZN] at hb2z))
    go_wp2
    go_ret
    exact ⟨rfl, hB1.trans (hb2.mono hB1.size)⟩
  | true =>
    have HF := Lib.hid (hbb rfl)
    clear hbb
    have hw1 : w.heap.size < w1.heap.size := by have := hb1.size; simp at this; omega
    (go_wp2_with fail; (with_reducible refine (KB.out _ hB1).mono ?_); rintro e w2 ⟨⟨b2, rfl, hb2'⟩, hb2⟩; have hb2z := Below.size hb2; (try simp only [ZA, ZS, ZD, ZN] at hb2z); have hb2c0 := fun o => below_at hb2 (w.heap.size) o (by first | omega | (simp only [ZA, ZS, ZD, ZN]; omega)); have hb2f0 := fun o => below_fr hb2 (w.heap.size) o (by first | omega | (simp only [ZA, ZS, ZD, ZN]; omega)))
    have hB2 : Below w.heap.size w w2 := hB1.trans (hb2.mono hB1.size)
    cases b2 with
    | false =>
      clear hb2'
      (go_wp2_with fail; (with_reducible refine (awake52_any _).mono ?_); rintro e w3 ⟨rfl, hb3⟩; have hb3z := Below.size hb3; (try simp only [ZA, ZS, ZD, ZN] at hb3z))
      go_wp2
      go_ret
      exact ⟨rfl, hB2.trans (hb3.mono hB2.size)⟩
    | true =>
      have h6 := hb2' rfl
      clear hb2'
      have hS := HF.out.1.small HI.out
      have h0 := HF.out.2
      have ok := Chn.ok_iff.1 h0
      have hn9 := hS.nd ok
      have KE2 := Lib.hid (KE.out HF.out.1 h6)
      by_cases hB : c.codeB n R = 0
      · have KE3 : Hid (∀ W, Below w.heap.size w W → Calls Tryz.prog 25 #[cv c.st c.sr AM c.nm cm AD c.nd cd, .slice AV n ca] W fun e w' => e = .returned (.int .i64 0) ∧ Below W.heap.size W w') := fun W hb => by have := KE2.out W hb; rw [hB] at this; exact this
        obtain ⟨-, hnn, -⟩ := Chn.codeB_0 hB
        have hD : ∀ W, Below w.heap.size w W → DistS W AM cm AD cd c AV n R := fun W hb => brief_dist (HI.out.below hb) hS ((HRV.out.below hb).up hb.size) h6
        have hfz := (hD w (Below.refl _ _)).fz hB
        have hVc := (hD w (Below.refl _ _)).vec hB
        obtain ⟨X, hX⟩ : ∃ X, X = vecQ n R := ⟨_, rfl⟩
        rw [← hX] at hfz hVc
        have hbv : c.balV n R = c.balB X := by unfold Chn.balV; rw [if_pos hB, hX]
        have hdv : c.detV n R = c.detB X := by unfold Chn.detV; rw [if_pos hB, hX]
        obtain ⟨va, hva⟩ : ∃ va, va = c.balB X := ⟨_, rfl⟩
        obtain ⟨vd, hvd⟩ : ∃ vd, vd = c.detB X := ⟨_, rfl⟩
        have K4 : Hid (∀ W, Below w.heap.size w W → Calls Tryz.prog 27 #[cv c.st c.sr AM c.nm cm AD c.nd cd, .slice AV n ca] W fun e w' => e = .returned (.tuple #[.bool va, .nilIface]) ∧ Below W.heap.size W w') := fun W hb => by
          have := Balanced_any (ca := ca) (hD W hb)
          rw [hB, errM_0, hbv, ← hva] at this
          exact this
        have K5 : Hid (∀ W, Below w.heap.size w W → Calls Tryz.prog 28 #[cv c.st c.sr AM c.nm cm AD c.nd cd, .slice AV n ca] W fun e w' => e = .returned (.tuple #[.bool vd, .nilIface]) ∧ Below W.heap.size W w') := fun W hb => by
          have := Detailed_any (ca := ca) (hD W hb)
          rw [hB, errM_0, hdv, ← hvd] at this
          exact this
        have K6 : Hid (va = true → ∀ W, Below w.heap.size w W → Calls Tryz.prog 15 #[cv c.st c.sr AM c.nm cm AD c.nd cd, .slice AV n ca] W fun e w' => (∃ v, e = .returned (.tuple #[v, .nilIface]) ∧ RdS w' 0 v (canR (c.frq X c.nm))) ∧ Below W.heap.size W w') := fun ha W hb => by
          have hce : c.codeCe n R = 0 := Chn.codeCe_z hB (by rw [← hX, ← hva]; exact ha)
          have := Frequency_any (ca := ca) (hD W hb)
          rw [hce, show c.frqV n R = c.frq X c.nm by unfold Chn.frqV; rw [if_pos hce, ← hX]] at this
          refine this.mono fun e w' ⟨h1, h2⟩ => ⟨?_, h2⟩
          obtain ⟨v, e1, r⟩ := h1
          rw [errM_0] at e1
          exact ⟨v, e1, r⟩
        have HP1 : Hid (vd = true → lowN X n = false → sumN X n = 1 → va = true) := fun h1 h2 h3 => by rw [hva]; rw [hnn] at h2 h3; exact flows_bal ok (hvd ▸ h1) h2 h3
        obtain ⟨FB, hFB⟩ : ∃ FB : Nat → Rat, FB = floG (fun k => c.D (c.f k) && !c.D (c.t k)) c.f c.q X := ⟨_, rfl⟩
        have HP2 : Hid (va = true → c.frq X c.nm = FB c.nm) := fun ha => by rw [hFB]; exact flows_back ok (hva ▸ ha)
        obtain ⟨M, hM⟩ : ∃ M, M = 220000100 := ⟨_, rfl⟩
        obtain ⟨b1, b2', -, b4, -⟩ := hS.sizP.bal ok _ X hfz
        have hnM : n ≤ 300 := h6.1
        have HSM : Hid (∀ k, k ≤ n → Sz M (sumN X k)) := fun k hk => (b1 k (by omega)).more (by omega)
        have HSQ2 : Hid (∀ k, k < c.nm → ∀ s, Sz M (X s * c.q k)) := fun k hk s => (b2' k hk s).more (by omega)
        have HSB : Hid (∀ k, k ≤ c.nm → Sz M (FB k)) := fun k hk => by rw [hFB]; exact (b4 k hk _).more (by omega)
        have HSF : Hid (Sz M (c.frq X c.nm)) := (b4 c.nm (Nat.le_refl _) _).more (by omega)
        have HXS : Hid (∀ s, Sz M (X s)) := fun s => ((hfz.more (show 220000000 ≤ 220000001 by omega)).sz (by omega) s).more (by omega)
        have HM0 : Hid (sumN X 0 = 0) := by show sumN X 0 = 0; unfold sumN; rfl
        have HMS : Hid (∀ k, sumN X (k + 1) = sumN X k + X k) := fun k => by conv => lhs; unfold sumN
        have HL0 : Hid (lowN X 0 = false) := by show lowN X 0 = false; unfold lowN; rfl
        have HLS : Hid (∀ k, lowN X (k + 1) = (lowN X k || decide (X k < 0))) := fun k => by conv => lhs; unfold lowN
        have HB0 : Hid (FB 0 = 0) := by show FB 0 = 0; rw [hFB]; unfold floG; rfl
        have HBY : Hid (∀ k, c.D (c.f k) = true → c.D (c.t k) = false → FB (k + 1) = FB k + X (c.f k) * c.q k) := fun k h1 h2 => by rw [hFB]; exact floG_yes (by rw [h1, h2]; rfl)
        have HBN : Hid (∀ k, (c.D (c.f k) && !c.D (c.t k)) = false → FB (k + 1) = FB k) := fun k h1 => by rw [hFB]; exact floG_no h1
        have HMV := Lib.hid (fun W hb k hk => HI.out.mv_later (W := W) ok hb (k := k) hk)
        have HDN := Lib.hid (fun W hb s hs => HI.out.dn_later (W := W) hb (s := s) hs)
        have HSQ := Lib.hid (fun k hk => (hS.chS.siz ok).raw k hk)
        have HV := Lib.hid hVc
        have hML : 400 ≤ M ∧ M ≤ 1000000000 := by omega
        have hlo := ok.lo
        obtain ⟨bd, od, rfl, hbd, -⟩ := HDN.out w (Below.refl _ _) 0 (by omega)
        have hd0 := fun W (hb : Below w.heap.size w W) s (hs : s < c.nd) => (by
          obtain ⟨b, o, e, -, p⟩ := HDN.out W hb s hs
          cases e
          exact p : W.cell? ⟨bd, od + s, none⟩ = some (.bool (c.D s)))
        have HDd := Lib.hid hd0
        obtain ⟨SM, hSM⟩ : ∃ SM : Nat → Rat, SM = sumN X := ⟨_, rfl⟩
        obtain ⟨LN, hLN⟩ : ∃ LN : Nat → Bool, LN = lowN X := ⟨_, rfl⟩
        obtain ⟨FR, hFR⟩ : ∃ FR, FR = c.frq X c.nm := ⟨_, rfl⟩
        rw [← hSM] at HSM HM0 HMS HP1
        rw [← hLN] at HL0 HLS HP1
        rw [← hFR] at K6 HP2 HSF
        have hnm := hS.nm
        have HNN : Hid (∀ s, s < c.nd → s < n) := fun s hs => by omega
        have hndn : c.nd ≤ n := by omega
        clear KE KE2 KB KF hD hfz hVc hX hbv hdv hva hvd b1 b2' b4 hM hFB hSM hLN hFR hnn hB h6 hS h0 ok HF HI HRV HBA HDN hd0
        (go_wp2_with fail; (with_reducible refine (KE3.out _ hB2).mono ?_); rintro e w3 ⟨rfl, hb3⟩; have hb3z := Below.size hb3; (try simp only [ZA, ZS, ZD, ZN] at hb3z); have hb3c0 := fun o => below_at hb3 (w.heap.size) o (by first | omega | (simp only [ZA, ZS, ZD, ZN]; omega)); have hb3f0 := fun o => below_fr hb3 (w.heap.size) o (by first | omega | (simp only [ZA, ZS, ZD, ZN]; omega)))
        have hB3 : Below w.heap.size w w3 := hB2.trans (hb3.mono hB2.size)
        (go_wp2_with fail; (with_reducible refine (awake52_any _).mono ?_); rintro e w4 ⟨rfl, hb4⟩; have hb4z := Below.size hb4; (try simp only [ZA, ZS, ZD, ZN] at hb4z); have hb4c0 := fun o => below_at hb4 (w.heap.size) o (by first | omega | (simp only [ZA, ZS, ZD, ZN]; omega)); have hb4f0 := fun o => below_fr hb4 (w.heap.size) o (by first | omega | (simp only [ZA, ZS, ZD, ZN]; omega)))
        have hB4 : Below w.heap.size w w4 := hB3.trans (hb4.mono hB3.size)
        (go_wp2_with fail; (with_reducible refine (K4.out _ hB4).mono ?_); rintro e w5 ⟨rfl, hb5⟩; have hb5z := Below.size hb5; (try simp only [ZA, ZS, ZD, ZN] at hb5z); have hb5c0 := fun o => below_at hb5 (w.heap.size) o (by first | omega | (simp only [ZA, ZS, ZD, ZN]; omega)); have hb5f0 := fun o => below_fr hb5 (w.heap.size) o (by first | omega | (simp only [ZA, ZS, ZD, ZN]; omega)))
        have hB5 : Below w.heap.size w w5 := hB4.trans (hb5.mono hB4.size)
        (go_wp2_with fail; (with_reducible refine (K5.out _ hB5).mono ?_); rintro e w6 ⟨rfl, hb6⟩; have hb6z := Below.size hb6; (try simp only [ZA, ZS, ZD, ZN] at hb6z); have hb6c0 := fun o => below_at hb6 (w.heap.size) o (by first | omega | (simp only [ZA, ZS, ZD, ZN]; omega)); have hb6f0 := fun o => below_fr hb6 (w.heap.size) o (by first | omega | (simp only [ZA, ZS, ZD, ZN]; omega)))
        have hB6 : Below w.heap.size w w6 := hB5.trans (hb6.mono hB5.size)
        have hw6 : w.heap.size < w6.heap.size := by have := hb2.size; have := hb3.size; have := hb4.size; have := hb5.size; have := hb6.size; omega
        have u0 : ∀ i, w6.cell? ⟨w.heap.size, i, none⟩ = (w.alloc (.cells #[.int .i64 c.st, .int .i64 c.sr, .slice AM c.nm cm, .slice (some ⟨bd, od, none⟩) c.nd cd] 25)).cell? ⟨w.heap.size, i, none⟩ := fun i => by rw [hb6c0, hb5c0, hb4c0, hb3c0, hb2c0, hb1c0]
        have y0 : w6.cell? ⟨w.heap.size, 0, none⟩ = some (.int .i64 c.st) := by rw [u0]; simp
        have y1 : w6.cell? ⟨w.heap.size, 1, none⟩ = some (.int .i64 c.sr) := by rw [u0]; simp
        have y2 : w6.cell? ⟨w.heap.size, 2, none⟩ = some (.slice AM c.nm cm) := by rw [u0]; simp
        have y3 : w6.cell? ⟨w.heap.size, 3, none⟩ = some (.slice (some ⟨bd, od, none⟩) c.nd cd) := by rw [u0]; simp
        have HB6 := Lib.hid hB6
        clear u0 hb1 hb2 hb3 hb4 hb5 hb6 hb1c0 hb2c0 hb3c0 hb4c0 hb5c0 hb6c0 hb1f0 hb2f0 hb3f0 hb4f0 hb5f0 hb6f0 hB1 hB2 hB3 hB4 hB5 hB6
        go_wp2
        go_loopw [57, 10] (fun i lo wr => ∃ k : Nat, k ≤ n ∧ i = .int .i64 (k : Int) ∧ lo = .bool (LN k) ∧ VarR w6.heap.size (SM k) wr ∧ Below w6.heap.size w6 wr) (fun i _ _ => n - (intOf i).toNat)
        case atStart => exact ⟨0, Nat.zero_le _, rfl, by rw [HL0.out], by rw [HM0.out]; exact VarR.new w6, (Below.refl _ _).alloc (Nat.le_refl _) _⟩
        case round =>
          obtain ⟨k, hk, rfl, rfl, vS, hb⟩ := hrel
          have hz := hb.size
          have hbw : Below w.heap.size w wr := HB6.out.trans (hb.mono (by omega))
          have hvz := vS.2.2.1
          by_cases hlt : k < n
          · obtain ⟨bx, ox, s2, A2, n2, c2, B2, m2, d2, rfl, hbx, v0, v1, v2, r2⟩ := HV.out.at_ hlt
            have x0 := (hbw.cell (lt_of_cell v0)).trans v0
            have x1 := (hbw.cell (lt_of_cell v1)).trans v1
            have x2 := (hbw.cell (lt_of_cell v2)).trans v2
            have qx := (show RdS w _ _ (canR (X k)) from r2).canQ (HXS.out k)
            have KSg := Lib.hid (fun W (hb : Below w.heap.size w W) => signQ (qx.below hb) (by omega) (by omega))
            have hki : (k : Int) < (n : Int) := by omega
            have hk0 : (0 : Int) ≤ (k : Int) := by omega
            have hszk := HSM.out k hk
            have HQX := Lib.hid qx
            have HVS := Lib.hid vS
            have HB := Lib.hid hb
            have HBw := Lib.hid hbw
            have HME := Lib.hid (HMS.out k)
            have hLS := HLS.out k
            have hal : Below wr.heap.size wr (wr.alloc (.cells #[.bool s2, .slice A2 n2 c2, .slice B2 m2 d2] 30)) := (Below.refl _ _).alloc (Nat.le_refl _) _
            have HAL := Lib.hid hal
            have vq := vS.below hal
            have HVQ := Lib.hid vq
            obtain ⟨⟨s8, A8, n8, c8, B8, m8, d8, o0, o1, o2, r0⟩, hRB, hgz, hgf⟩ := vq
            have qd := r0.canQ hszk
            have KA := Lib.hid (fun W (hb' : Below (wr.alloc (.cells #[.bool s2, .slice A2 n2 c2, .slice B2 m2 d2] 30)).heap.size (wr.alloc (.cells #[.bool s2, .slice A2 n2 c2, .slice B2 m2 d2] 30)) W) => addQ (qd.below hb') (HQX.out.below (HBw.out.trans ((HAL.out.trans (hb'.mono (by simp))).mono HBw.out.size))) (by omega) (by omega))
            clear v0 v1 v2 r2 qx vS hb hbw hal r0 qd hRB
            (go_wp2_with fail; (with_reducible refine (KA.out _ (by (skip); repeat' (first | (with_reducible exact Below.refl _ _) | (with_reducible assumption) | (with_reducible refine Below.alloc ?_ ?_ _) | (with_reducible refine Below.drew ?_) | (with_reducible refine below_drewN ?_ _) | (with_reducible refine Below.setCell ?_ ?_ _) | (with_reducible refine Below.trans ?_ (Below.mono (by with_reducible assumption) ?_)) | omega | (simp only [ZA, ZS, ZD, ZN]; omega) | go_size))).mono ?_); rintro e w7 ⟨⟨v4, rfl, own4⟩, hb7⟩; have hb7z := Below.size hb7; (try simp only [ZA, ZS, ZD, ZN] at hb7z); have hb7c0 := fun o => below_at hb7 (w6.heap.size) o (by first | omega | (simp only [ZA, ZS, ZD, ZN]; omega)); have hb7f0 := fun o => below_fr hb7 (w6.heap.size) o (by first | omega | (simp only [ZA, ZS, ZD, ZN]; omega)); have hb7c1 := fun o => below_at hb7 (wr.heap.size) o (by first | omega | (simp only [ZA, ZS, ZD, ZN]; omega)); have hb7f1 := fun o => below_fr hb7 (wr.heap.size) o (by first | omega | (simp only [ZA, ZS, ZD, ZN]; omega)))
            obtain ⟨s9, A9, n9, c9, B9, m9, d9, rfl⟩ := own4.form
            have hgf4 : ∀ i, w7.frozen? ⟨w6.heap.size, i, none⟩ = false := fun i => by rw [hb7f0]; exact hgf i
            have hVP := (HVQ.out.below hb7).put (own4.rs (b0 := 0))
            rw [← HME.out] at hVP
            have p0 : w7.cell? ⟨w6.heap.size, 0, none⟩ = some (.bool s8) := by rw [hb7c0]; exact o0
            have p1 : w7.cell? ⟨w6.heap.size, 1, none⟩ = some (.slice A8 n8 c8) := by rw [hb7c0]; exact o1
            have p2 : w7.cell? ⟨w6.heap.size, 2, none⟩ = some (.slice B8 m8 d8) := by rw [hb7c0]; exact o2
            have e0 : w7.cell? ⟨wr.heap.size, 0, none⟩ = some (.bool s2) := by rw [hb7c1]; simp
            have e1 : w7.cell? ⟨wr.heap.size, 1, none⟩ = some (.slice A2 n2 c2) := by rw [hb7c1]; simp
            have e2 : w7.cell? ⟨wr.heap.size, 2, none⟩ = some (.slice B2 m2 d2) := by rw [hb7c1]; simp
            have hbr7 : Below wr.heap.size wr w7 := HAL.out.trans (hb7.mono (by simp))
            have hBP := below_set3 (HB.out.trans (hbr7.mono hz)) (Nat.le_refl _) (.bool s9) (.slice A9 n9 c9) (.slice B9 m9 d9)
            have hneq : w6.heap.size ≠ wr.heap.size := by omega
            have E0 : (((w7.setCell ⟨w6.heap.size, 0, none⟩ (.bool s9)).setCell ⟨w6.heap.size, 1, none⟩ (.slice A9 n9 c9)).setCell ⟨w6.heap.size, 2, none⟩ (.slice B9 m9 d9)).cell? ⟨wr.heap.size, 0, none⟩ = some (.bool s2) := by rw [World.cell?_setCell_far _ _ _ _ hneq, World.cell?_setCell_far _ _ _ _ hneq, World.cell?_setCell_far _ _ _ _ hneq]; exact e0
            have E1 : (((w7.setCell ⟨w6.heap.size, 0, none⟩ (.bool s9)).setCell ⟨w6.heap.size, 1, none⟩ (.slice A9 n9 c9)).setCell ⟨w6.heap.size, 2, none⟩ (.slice B9 m9 d9)).cell? ⟨wr.heap.size, 1, none⟩ = some (.slice A2 n2 c2) := by rw [World.cell?_setCell_far _ _ _ _ hneq, World.cell?_setCell_far _ _ _ _ hneq, World.cell?_setCell_far _ _ _ _ hneq]; exact e1
            have E2 : (((w7.setCell ⟨w6.heap.size, 0, none⟩ (.bool s9)).setCell ⟨w6.heap.size, 1, none⟩ (.slice A9 n9 c9)).setCell ⟨w6.heap.size, 2, none⟩ (.slice B9 m9 d9)).cell? ⟨wr.heap.size, 2, none⟩ = some (.slice B2 m2 d2) := by rw [World.cell?_setCell_far _ _ _ _ hneq, World.cell?_setCell_far _ _ _ _ hneq, World.cell?_setCell_far _ _ _ _ hneq]; exact e2
            have HVP := Lib.hid hVP
            have HBP := Lib.hid hBP
            have HBWP := Lib.hid (HB6.out.trans (hBP.mono HB6.out.size))
            clear hVP hBP hb7 hb7c0 hb7c1 hb7f0 hb7f1 own4 o0 o1 o2 hbr7 e0 e1 e2 x0 x1 x2 hgf
            cases hL : LN k
            · rw [hL] at hLS
              obtain ⟨z, hz'⟩ : ∃ z, z = sgnQ (X k) := ⟨_, rfl⟩
              have ez : decide (z < 0) = decide (X k < 0) := by
                rw [hz']
                by_cases hlo : X k < 0
                · rw [sgn_neg hlo, decide_eq_true hlo]; rfl
                · rw [decide_eq_false hlo]
                  by_cases h0 : X k = 0
                  · rw [sgnQ_zero.2 h0]; rfl
                  · rw [sgn_pos (by have := Rat.not_lt.1 hlo; grind)]; rfl
              rw [← hz'] at KSg
              have HLE : Hid (LN (k + 1) = decide (z < 0)) := by show _ = _; rw [hLS, ez]; simp
              clear hL hLS ez hz'
              (go_wp2_with fail; (with_reducible refine (KSg.out _ HBWP.out).mono ?_); rintro e w8 ⟨rfl, hb8⟩; have hb8z := Below.size hb8; (try simp only [ZA, ZS, ZD, ZN] at hb8z))
              have HV8 := Lib.hid (HVP.out.below hb8)
              have HB8 := Lib.hid (HBP.out.trans (hb8.mono HBP.out.size))
              clear hb8
              go_wp2
              go_roundw
              case rel => exact ⟨k + 1, by omega, by go_num, by rw [HLE.out], HV8.out, HB8.out⟩
              case measure => simp [intOf]; omega
            · rw [hL] at hLS
              have HLE : Hid (LN (k + 1) = true) := by show _ = _; rw [hLS]; simp
              clear hL hLS KSg
              go_wp2
              go_roundw
              case rel => exact ⟨k + 1, by omega, by go_num, by rw [HLE.out], HVP.out, HBP.out⟩
              case measure => simp [intOf]; omega
          · have hkn : n = k := by omega
            subst hkn
            obtain ⟨wA, hwA⟩ : ∃ wA, wA = wr := ⟨_, rfl⟩
            subst hwA
            have hvA := vS
            have HVS := Lib.hid vS
            have HBA := Lib.hid hb
            have HBWA := Lib.hid hbw
            obtain ⟨⟨s0, A4, n4, c4, B4, m4, d4, o0, o1, o2, r0⟩, -, -, -⟩ := hvA
            have qs := r0.canQ (HSM.out n (Nat.le_refl _))
            have K0 : Hid (∀ W : World, Calls Tryz.prog 11 #[.int .i64 1] W fun e w' => RetQ W.heap.size ((1 : Nat) : Rat) e w' ∧ Below W.heap.size W w') := fun W => ofQ 1 W (by omega)
            have KCm : Hid (∀ W b v, Below wA.heap.size wA W → OwQ W b v ((1 : Nat) : Rat) → Calls Tryz.prog 17 #[rv s0 A4 n4 c4 B4 m4 d4, v] W fun e w' => e = .returned (.int .i64 (sgnQ (SM n - 1))) ∧ Below W.heap.size W w') := fun W b v hb hv => cmpQ (qs.below hb) (hv.rq (L := M) (Sz.one (by omega))) (by omega) (by omega)
            obtain ⟨lo, hlo⟩ : ∃ lo, lo = LN n := ⟨_, rfl⟩
            rw [← hlo]
            have HP1n : Hid (vd = true → lo = false → SM n = 1 → va = true) := by rw [hlo]; exact HP1.out
            clear r0 qs vS hb hbw hlo
            go_upto_region 15 with fail
            go_cut [85] from 71 to 85 (fun p wx => p = .bool false ∧ Below wA.heap.size wA wx)
            case first =>
              cases vd
              · ((refine wp_region_quiet_bel (by kernel_rfl) (by kernel_rfl) ?_); (repeat (go_big_quiet_step (fail))); (refine wpQuiet_nil ?_); rintro w7 ⟨⟨_, hb7⟩, rfl⟩; (try dsimp only))
                go_wp2
                go_meet
                exact ⟨rfl, hb7⟩
              · cases lo
                · by_cases hS1 : SM n = 1
                  · have ha := HP1n.out rfl rfl hS1
                    subst ha
                    have ez : sgnQ (SM n - 1) = 0 := by rw [hS1]; decide +kernel
                    rw [ez] at KCm
                    clear ez hS1
                    (refine wp_region_held_drew (S := (fun W => W.cell? ⟨w6.heap.size, 0, none⟩ = some (.bool s0) ∧ W.cell? ⟨w6.heap.size, 1, none⟩ = some (.slice A4 n4 c4) ∧ W.cell? ⟨w6.heap.size, 2, none⟩ = some (.slice B4 m4 d4))) (by kernel_rfl) ?_ (fun hHeld => ?_); focus ((try dsimp only); (first | done | go_keep)))
                    (refine wpAnyH_take (i := 0) (oi := { dst := some 71, op := _, type := _, pos := _, after := _, guard := _ }) (v := ?_) rfl (by kernel_rfl) (by kernel_rfl) (by kernel_rfl) (fun _ _ _ h => h) (Or.inl ⟨by kernel_rfl, ?_⟩) (by assumption) ?_; rotate_left; (focus (intro w hSw; (try dsimp only at hSw); go_simp; (try with_reducible rfl))); (try simp only [Act.put, List.setIfInBounds_toArray, List.set_cons_zero, List.set_cons_succ]))
                    (refine wpAnyH_take (i := 1) (oi := { dst := some 72, op := _, type := _, pos := _, after := _, guard := _ }) (v := ?_) rfl (by kernel_rfl) (by kernel_rfl) (by kernel_rfl) (fun _ _ _ h => h) (Or.inl ⟨by kernel_rfl, ?_⟩) (by assumption) ?_; rotate_left; (focus (intro w hSw; (try dsimp only at hSw); go_simp; (try with_reducible rfl))); (try simp only [Act.put, List.setIfInBounds_toArray, List.set_cons_zero, List.set_cons_succ]))
                    (refine wpAnyH_take (i := 2) (oi := { dst := some 73, op := _, type := _, pos := _, after := _, guard := _ }) (v := ?_) rfl (by kernel_rfl) (by kernel_rfl) (by kernel_rfl) (fun _ _ _ h => h) (Or.inl ⟨by kernel_rfl, ?_⟩) (by assumption) ?_; rotate_left; (focus (intro w hSw; (try dsimp only at hSw); go_simp; (try with_reducible rfl))); (try simp only [Act.put, List.setIfInBounds_toArray, List.set_cons_zero, List.set_cons_succ]))
                    (refine wpAnyH_take (i := 3) (oi := { dst := some 74, op := _, type := _, pos := _, after := _, guard := _ }) (v := ?_) rfl (by kernel_rfl) (by kernel_rfl) (by kernel_rfl) (fun _ _ _ h => h) (Or.inl ⟨by kernel_rfl, ?_⟩) (by assumption) ?_; rotate_left; (focus (intro w hSw; (try dsimp only at hSw); go_simp; (try with_reducible rfl))); (try simp only [Act.put, List.setIfInBounds_toArray, List.set_cons_zero, List.set_cons_succ]))
                    (refine wpAnyH_take (i := 4) (oi := { dst := some 75, op := _, type := _, pos := _, after := _, guard := _ }) (v := ?_) rfl (by kernel_rfl) (by kernel_rfl) (by kernel_rfl) (fun _ _ _ h => h) (Or.inl ⟨by kernel_rfl, ?_⟩) (by assumption) ?_; rotate_left; (focus (intro w hSw; (try dsimp only at hSw); go_simp; (try with_reducible rfl))); (try simp only [Act.put, List.setIfInBounds_toArray, List.set_cons_zero, List.set_cons_succ]))
                    (refine wpAnyH_take (i := 5) (oi := { dst := some 76, op := _, type := _, pos := _, after := _, guard := _ }) (v := ?_) rfl (by kernel_rfl) (by kernel_rfl) (by kernel_rfl) (fun _ _ _ h => h) (Or.inl ⟨by kernel_rfl, ?_⟩) (by assumption) ?_; rotate_left; (focus (intro w hSw; (try dsimp only at hSw); go_simp; (try with_reducible rfl))); (try simp only [Act.put, List.setIfInBounds_toArray, List.set_cons_zero, List.set_cons_succ]))
                    (refine wpAnyH_take (i := 6) (oi := { dst := some 77, op := _, type := _, pos := _, after := _, guard := _ }) (v := ?_) rfl (by kernel_rfl) (by kernel_rfl) (by kernel_rfl) (fun _ _ _ h => h) (Or.inl ⟨by kernel_rfl, ?_⟩) (by assumption) ?_; rotate_left; (focus (intro w hSw; (try dsimp only at hSw); go_simp; (try with_reducible rfl))); (try simp only [Act.put, List.setIfInBounds_toArray, List.set_cons_zero, List.set_cons_succ]))
                    (refine wpAnyH_ready (rs := [7]) (by kernel_rfl) (by simp) ?_; refine AllReadyH.cons (o := { dst := some 78, op := _, type := _, pos := _, after := _, guard := _ }) rfl (fun K hK => ?_) AllReadyH.nil; go_simp)
                    go_wp2_with (first | ((go_at_call 11; (with_reducible refine (K0.out _).mono ?_); rintro e w7 ⟨⟨v7, rfl, own7⟩, hb7⟩; have hb7z := Below.size hb7; (try simp only [ZA, ZS, ZD] at hb7z); have hb7c0 := fun o => below_at hb7 (w6.heap.size) o (by first | omega | (simp only [ZA, ZS, ZD]; omega)); have hb7f0 := fun o => below_fr hb7 (w6.heap.size) o (by first | omega | (simp only [ZA, ZS, ZD]; omega)); have hb7l0 : w6.heap.size < (w7).heap.size := (by omega)); obtain ⟨s9, A9, n9, c9, B9, m9, d9, rfl⟩ := own7.form) | fail)
                    (refine hK.out _ _ ?_ (fun hHeld2 => ?_); (focus ((try dsimp only); (first | done | go_keep))); clear hK K hHeld; revert hHeld2; intro hHeld; (try simp only [Act.put, List.setIfInBounds_toArray, List.set_cons_zero, List.set_cons_succ]))
                    (refine wpAnyH_ready (rs := [8]) (by kernel_rfl) (by simp) ?_; refine AllReadyH.cons (o := { dst := some 79, op := _, type := _, pos := _, after := _, guard := _ }) rfl (fun K hK => ?_) AllReadyH.nil; go_simp)
                    go_wp2_with (first | ((go_at_call 17; (with_reducible refine (KCm.out _ _ _ (by have z0 := Below.size hb7; (try simp only [ZA, ZS, ZD, ZN] at z0 ⊢; skip); repeat' (first | (with_reducible exact Below.refl _ _) | (with_reducible assumption) | (with_reducible refine Below.alloc ?_ ?_ _) | (with_reducible refine Below.drew ?_) | (with_reducible refine below_drewN ?_ _) | (with_reducible refine Below.setCell ?_ ?_ _) | (with_reducible refine Below.trans ?_ (Below.mono (by with_reducible assumption) ?_)) | omega | (simp only [ZA, ZS, ZD, ZN]; omega) | go_size)) own7).mono ?_); rintro e w8 ⟨rfl, hb8⟩; have hb8z := Below.size hb8; (try simp only [ZA, ZS, ZD] at hb8z); have hb8c0 := fun o => below_at hb8 (w6.heap.size) o (by first | omega | (simp only [ZA, ZS, ZD]; omega)); have hb8f0 := fun o => below_fr hb8 (w6.heap.size) o (by first | omega | (simp only [ZA, ZS, ZD]; omega)); have hb8l0 : w6.heap.size < (w8).heap.size := (by omega))) | fail)
                    (refine hK.out _ _ ?_ (fun hHeld2 => ?_); (focus ((try dsimp only); (first | done | go_keep))); clear hK K hHeld; revert hHeld2; intro hHeld; (try simp only [Act.put, List.setIfInBounds_toArray, List.set_cons_zero, List.set_cons_succ]))
                    (refine wpAnyH_take (i := 9) (oi := { dst := some 80, op := _, type := _, pos := _, after := _, guard := _ }) (v := ?_) rfl (by kernel_rfl) (by kernel_rfl) (by kernel_rfl) (fun _ _ _ h => h) (Or.inl ⟨by kernel_rfl, ?_⟩) (by assumption) ?_; rotate_left; (focus (intro w hSw; (try dsimp only at hSw); go_simp; (try with_reducible rfl))); (try simp only [Act.put, List.setIfInBounds_toArray, List.set_cons_zero, List.set_cons_succ]))
                    (refine wpAnyH_take (i := 10) (oi := { dst := some 81, op := _, type := _, pos := _, after := _, guard := _ }) (v := ?_) rfl (by kernel_rfl) (by kernel_rfl) (by kernel_rfl) (fun _ _ _ h => h) (Or.inl ⟨by kernel_rfl, ?_⟩) (by assumption) ?_; rotate_left; (focus (intro w hSw; (try dsimp only at hSw); go_simp; (try with_reducible rfl))); (try simp only [Act.put, List.setIfInBounds_toArray, List.set_cons_zero, List.set_cons_succ]))
                    (refine wpAnyH_take (i := 11) (oi := { dst := some 82, op := _, type := _, pos := _, after := _, guard := _ }) (v := ?_) rfl (by kernel_rfl) (by kernel_rfl) (by kernel_rfl) (fun _ _ _ h => h) (Or.inl ⟨by kernel_rfl, ?_⟩) (by assumption) ?_; rotate_left; (focus (intro w hSw; (try dsimp only at hSw); go_simp; (try with_reducible rfl))); (try simp only [Act.put, List.setIfInBounds_toArray, List.set_cons_zero, List.set_cons_succ]))
                    (refine wpAnyH_take (i := 12) (oi := { dst := some 83, op := _, type := _, pos := _, after := _, guard := _ }) (v := ?_) rfl (by kernel_rfl) (by kernel_rfl) (by kernel_rfl) (fun _ _ _ h => h) (Or.inl ⟨by kernel_rfl, ?_⟩) (by assumption) ?_; rotate_left; (focus (intro w hSw; (try dsimp only at hSw); go_simp; (try with_reducible rfl))); (try simp only [Act.put, List.setIfInBounds_toArray, List.set_cons_zero, List.set_cons_succ]))
                    (refine wpAnyH_take (i := 13) (oi := { dst := some 84, op := _, type := _, pos := _, after := _, guard := _ }) (v := ?_) rfl (by kernel_rfl) (by kernel_rfl) (by kernel_rfl) (fun _ _ _ h => h) (Or.inl ⟨by kernel_rfl, ?_⟩) (by assumption) ?_; rotate_left; (focus (intro w hSw; (try dsimp only at hSw); go_simp; (try with_reducible rfl))); (try simp only [Act.put, List.setIfInBounds_toArray, List.set_cons_zero, List.set_cons_succ]))
                    (refine wpAnyH_take (i := 14) (oi := { dst := some 85, op := _, type := _, pos := _, after := _, guard := _ }) (v := ?_) rfl (by kernel_rfl) (by kernel_rfl) (by kernel_rfl) (fun _ _ _ h => h) (Or.inl ⟨by kernel_rfl, ?_⟩) (by assumption) ?_; rotate_left; (focus (intro w hSw; (try dsimp only at hSw); go_simp; (try with_reducible rfl))); (try simp only [Act.put, List.setIfInBounds_toArray, List.set_cons_zero, List.set_cons_succ]))
                    (refine wpAnyH_done (by kernel_rfl) ?_ _; clear hHeld)
                    all_goals
                      have hbn : Below wA.heap.size wA w8 := (by have z0 := Below.size hb7; have z1 := Below.size hb8; (try simp only [ZA, ZS, ZD, ZN] at z0 z1 ⊢; skip); repeat' (first | (with_reducible exact Below.refl _ _) | (with_reducible assumption) | (with_reducible refine Below.alloc ?_ ?_ _) | (with_reducible refine Below.drew ?_) | (with_reducible refine below_drewN ?_ _) | (with_reducible refine Below.setCell ?_ ?_ _) | (with_reducible refine Below.trans ?_ (Below.mono (by with_reducible assumption) ?_)) | omega | (simp only [ZA, ZS, ZD, ZN]; omega) | go_size))
                      go_wp2
                      go_meet
                      exact ⟨rfl, hbn⟩
                  · obtain ⟨z, hz9⟩ : ∃ z, z = sgnQ (SM n - 1) := ⟨_, rfl⟩
                    have ez : (z == 0) = false := by
                      rw [hz9, beq_eq_false_iff_ne]
                      exact fun e => hS1 (by have := sgnQ_zero.1 e; grind)
                    rw [← hz9] at KCm
                    clear hz9 hS1
                    (refine wp_region_held_drew (S := (fun W => W.cell? ⟨w6.heap.size, 0, none⟩ = some (.bool s0) ∧ W.cell? ⟨w6.heap.size, 1, none⟩ = some (.slice A4 n4 c4) ∧ W.cell? ⟨w6.heap.size, 2, none⟩ = some (.slice B4 m4 d4))) (by kernel_rfl) ?_ (fun hHeld => ?_); focus ((try dsimp only); (first | done | go_keep)))
                    (refine wpAnyH_take (i := 0) (oi := { dst := some 71, op := _, type := _, pos := _, after := _, guard := _ }) (v := ?_) rfl (by kernel_rfl) (by kernel_rfl) (by kernel_rfl) (fun _ _ _ h => h) (Or.inl ⟨by kernel_rfl, ?_⟩) (by assumption) ?_; rotate_left; (focus (intro w hSw; (try dsimp only at hSw); go_simp; (try with_reducible rfl))); (try simp only [Act.put, List.setIfInBounds_toArray, List.set_cons_zero, List.set_cons_succ]))
                    (refine wpAnyH_take (i := 1) (oi := { dst := some 72, op := _, type := _, pos := _, after := _, guard := _ }) (v := ?_) rfl (by kernel_rfl) (by kernel_rfl) (by kernel_rfl) (fun _ _ _ h => h) (Or.inl ⟨by kernel_rfl, ?_⟩) (by assumption) ?_; rotate_left; (focus (intro w hSw; (try dsimp only at hSw); go_simp; (try with_reducible rfl))); (try simp only [Act.put, List.setIfInBounds_toArray, List.set_cons_zero, List.set_cons_succ]))
                    (refine wpAnyH_take (i := 2) (oi := { dst := some 73, op := _, type := _, pos := _, after := _, guard := _ }) (v := ?_) rfl (by kernel_rfl) (by kernel_rfl) (by kernel_rfl) (fun _ _ _ h => h) (Or.inl ⟨by kernel_rfl, ?_⟩) (by assumption) ?_; rotate_left; (focus (intro w hSw; (try dsimp only at hSw); go_simp; (try with_reducible rfl))); (try simp only [Act.put, List.setIfInBounds_toArray, List.set_cons_zero, List.set_cons_succ]))
                    (refine wpAnyH_take (i := 3) (oi := { dst := some 74, op := _, type := _, pos := _, after := _, guard := _ }) (v := ?_) rfl (by kernel_rfl) (by kernel_rfl) (by kernel_rfl) (fun _ _ _ h => h) (Or.inl ⟨by kernel_rfl, ?_⟩) (by assumption) ?_; rotate_left; (focus (intro w hSw; (try dsimp only at hSw); go_simp; (try with_reducible rfl))); (try simp only [Act.put, List.setIfInBounds_toArray, List.set_cons_zero, List.set_cons_succ]))
                    (refine wpAnyH_take (i := 4) (oi := { dst := some 75, op := _, type := _, pos := _, after := _, guard := _ }) (v := ?_) rfl (by kernel_rfl) (by kernel_rfl) (by kernel_rfl) (fun _ _ _ h => h) (Or.inl ⟨by kernel_rfl, ?_⟩) (by assumption) ?_; rotate_left; (focus (intro w hSw; (try dsimp only at hSw); go_simp; (try with_reducible rfl))); (try simp only [Act.put, List.setIfInBounds_toArray, List.set_cons_zero, List.set_cons_succ]))
                    (refine wpAnyH_take (i := 5) (oi := { dst := some 76, op := _, type := _, pos := _, after := _, guard := _ }) (v := ?_) rfl (by kernel_rfl) (by kernel_rfl) (by kernel_rfl) (fun _ _ _ h => h) (Or.inl ⟨by kernel_rfl, ?_⟩) (by assumption) ?_; rotate_left; (focus (intro w hSw; (try dsimp only at hSw); go_simp; (try with_reducible rfl))); (try simp only [Act.put, List.setIfInBounds_toArray, List.set_cons_zero, List.set_cons_succ]))
                    (refine wpAnyH_take (i := 6) (oi := { dst := some 77, op := _, type := _, pos := _, after := _, guard := _ }) (v := ?_) rfl (by kernel_rfl) (by kernel_rfl) (by kernel_rfl) (fun _ _ _ h => h) (Or.inl ⟨by kernel_rfl, ?_⟩) (by assumption) ?_; rotate_left; (focus (intro w hSw; (try dsimp only at hSw); go_simp; (try with_reducible rfl))); (try simp only [Act.put, List.setIfInBounds_toArray, List.set_cons_zero, List.set_cons_succ]))
                    (refine wpAnyH_ready (rs := [7]) (by kernel_rfl) (by simp) ?_; refine AllReadyH.cons (o := { dst := some 78, op := _, type := _, pos := _, after := _, guard := _ }) rfl (fun K hK => ?_) AllReadyH.nil; go_simp)
                    go_wp2_with (first | ((go_at_call 11; (with_reducible refine (K0.out _).mono ?_); rintro e w7 ⟨⟨v7, rfl, own7⟩, hb7⟩; have hb7z := Below.size hb7; (try simp only [ZA, ZS, ZD] at hb7z); have hb7c0 := fun o => below_at hb7 (w6.heap.size) o (by first | omega | (simp only [ZA, ZS, ZD]; omega)); have hb7f0 := fun o => below_fr hb7 (w6.heap.size) o (by first | omega | (simp only [ZA, ZS, ZD]; omega)); have hb7l0 : w6.heap.size < (w7).heap.size := (by omega)); obtain ⟨s9, A9, n9, c9, B9, m9, d9, rfl⟩ := own7.form) | fail)
                    (refine hK.out _ _ ?_ (fun hHeld2 => ?_); (focus ((try dsimp only); (first | done | go_keep))); clear hK K hHeld; revert hHeld2; intro hHeld; (try simp only [Act.put, List.setIfInBounds_toArray, List.set_cons_zero, List.set_cons_succ]))
                    (refine wpAnyH_ready (rs := [8]) (by kernel_rfl) (by simp) ?_; refine AllReadyH.cons (o := { dst := some 79, op := _, type := _, pos := _, after := _, guard := _ }) rfl (fun K hK => ?_) AllReadyH.nil; go_simp)
                    go_wp2_with (first | ((go_at_call 17; (with_reducible refine (KCm.out _ _ _ (by have z0 := Below.size hb7; (try simp only [ZA, ZS, ZD, ZN] at z0 ⊢; skip); repeat' (first | (with_reducible exact Below.refl _ _) | (with_reducible assumption) | (with_reducible refine Below.alloc ?_ ?_ _) | (with_reducible refine Below.drew ?_) | (with_reducible refine below_drewN ?_ _) | (with_reducible refine Below.setCell ?_ ?_ _) | (with_reducible refine Below.trans ?_ (Below.mono (by with_reducible assumption) ?_)) | omega | (simp only [ZA, ZS, ZD, ZN]; omega) | go_size)) own7).mono ?_); rintro e w8 ⟨rfl, hb8⟩; have hb8z := Below.size hb8; (try simp only [ZA, ZS, ZD] at hb8z); have hb8c0 := fun o => below_at hb8 (w6.heap.size) o (by first | omega | (simp only [ZA, ZS, ZD]; omega)); have hb8f0 := fun o => below_fr hb8 (w6.heap.size) o (by first | omega | (simp only [ZA, ZS, ZD]; omega)); have hb8l0 : w6.heap.size < (w8).heap.size := (by omega))) | fail)
                    (refine hK.out _ _ ?_ (fun hHeld2 => ?_); (focus ((try dsimp only); (first | done | go_keep))); clear hK K hHeld; revert hHeld2; intro hHeld; (try simp only [Act.put, List.setIfInBounds_toArray, List.set_cons_zero, List.set_cons_succ]))
                    (refine wpAnyH_take (i := 9) (oi := { dst := some 80, op := _, type := _, pos := _, after := _, guard := _ }) (v := ?_) rfl (by kernel_rfl) (by kernel_rfl) (by kernel_rfl) (fun _ _ _ h => h) (Or.inl ⟨by kernel_rfl, ?_⟩) (by assumption) ?_; rotate_left; (focus (intro w hSw; (try dsimp only at hSw); go_simp; (try with_reducible rfl))); (try simp only [Act.put, List.setIfInBounds_toArray, List.set_cons_zero, List.set_cons_succ]))
                    (refine wpAnyH_take (i := 10) (oi := { dst := some 81, op := _, type := _, pos := _, after := _, guard := _ }) (v := ?_) rfl (by kernel_rfl) (by kernel_rfl) (by kernel_rfl) (fun _ _ _ h => h) (Or.inl ⟨by kernel_rfl, ?_⟩) (by assumption) ?_; rotate_left; (focus (intro w hSw; (try dsimp only at hSw); go_simp; (try with_reducible rfl))); (try simp only [Act.put, List.setIfInBounds_toArray, List.set_cons_zero, List.set_cons_succ]))
                    (refine wpAnyH_take (i := 11) (oi := { dst := some 82, op := _, type := _, pos := _, after := _, guard := _ }) (v := ?_) rfl (by kernel_rfl) (by kernel_rfl) (by kernel_rfl) (fun _ _ _ h => h) (Or.inl ⟨by kernel_rfl, ?_⟩) (by assumption) ?_; rotate_left; (focus (intro w hSw; (try dsimp only at hSw); go_simp; (try with_reducible rfl))); (try simp only [Act.put, List.setIfInBounds_toArray, List.set_cons_zero, List.set_cons_succ]))
                    (refine wpAnyH_take (i := 12) (oi := { dst := some 83, op := _, type := _, pos := _, after := _, guard := _ }) (v := undef) rfl (by kernel_rfl) (by kernel_rfl) (by kernel_rfl) (fun _ _ _ h => h) (Or.inr ⟨by kernel_rfl, rfl⟩) (by assumption) ?_; (try simp only [Act.put, List.setIfInBounds_toArray, List.set_cons_zero, List.set_cons_succ]))
                    (refine wpAnyH_take (i := 13) (oi := { dst := some 84, op := _, type := _, pos := _, after := _, guard := _ }) (v := undef) rfl (by kernel_rfl) (by kernel_rfl) (by kernel_rfl) (fun _ _ _ h => h) (Or.inr ⟨by kernel_rfl, rfl⟩) (by assumption) ?_; (try simp only [Act.put, List.setIfInBounds_toArray, List.set_cons_zero, List.set_cons_succ]))
                    (refine wpAnyH_take (i := 14) (oi := { dst := some 85, op := _, type := _, pos := _, after := _, guard := _ }) (v := ?_) rfl (by kernel_rfl) (by kernel_rfl) (by kernel_rfl) (fun _ _ _ h => h) (Or.inl ⟨by kernel_rfl, ?_⟩) (by assumption) ?_; rotate_left; (focus (intro w hSw; (try dsimp only at hSw); go_simp; (try with_reducible rfl))); (try simp only [Act.put, List.setIfInBounds_toArray, List.set_cons_zero, List.set_cons_succ]))
                    (refine wpAnyH_done (by kernel_rfl) ?_ _; clear hHeld)
                    all_goals
                      have hbn : Below wA.heap.size wA w8 := (by have z0 := Below.size hb7; have z1 := Below.size hb8; (try simp only [ZA, ZS, ZD, ZN] at z0 z1 ⊢; skip); repeat' (first | (with_reducible exact Below.refl _ _) | (with_reducible assumption) | (with_reducible refine Below.alloc ?_ ?_ _) | (with_reducible refine Below.drew ?_) | (with_reducible refine below_drewN ?_ _) | (with_reducible refine Below.setCell ?_ ?_ _) | (with_reducible refine Below.trans ?_ (Below.mono (by with_reducible assumption) ?_)) | omega | (simp only [ZA, ZS, ZD, ZN]; omega) | go_size))
                      go_wp2
                      go_meet
                      exact ⟨rfl, hbn⟩
                · ((refine wp_region_quiet_bel (by kernel_rfl) (by kernel_rfl) ?_); (repeat (go_big_quiet_step (fail))); (refine wpQuiet_nil ?_); rintro w7 ⟨⟨_, hb7⟩, rfl⟩; (try dsimp only))
                  go_wp2
                  go_meet
                  exact ⟨rfl, hb7⟩
            case rest =>
              obtain ⟨rfl, hbc⟩ := hcut
              have hzc := hbc.size
              have hbcW := HBWA.out.trans (hbc.mono HBWA.out.size)
              have hb6c := HBA.out.trans (hbc.mono hz)
              have HBCW := Lib.hid hbcW
              cases va
              · clear hbc hb6c hbcW
                go_wp2
                go_ret
                exact ⟨rfl, HBCW.out⟩
              · have K6' := Lib.hid (K6.out rfl)
                have HP2' := Lib.hid (HP2.out rfl)
                have y0c := (hb6c.cell (p := ⟨w.heap.size, 0, none⟩) hw6).trans y0
                have y1c := (hb6c.cell (p := ⟨w.heap.size, 1, none⟩) hw6).trans y1
                have y2c := (hb6c.cell (p := ⟨w.heap.size, 2, none⟩) hw6).trans y2
                have y3c := (hb6c.cell (p := ⟨w.heap.size, 3, none⟩) hw6).trans y3
                have hwc : w.heap.size < wc.heap.size := by have := hb6c.size; omega
                clear K6 HP2 hbc hb6c hbcW o0 o1 o2 y0 y1 y2 y3 K0 KCm HP1n HP1
                (go_wp2_with fail; (with_reducible refine (K6'.out _ HBCW.out).mono ?_); rintro e w7 ⟨⟨v7, rfl, r7⟩, hb7⟩; have hb7z := Below.size hb7; (try simp only [ZA, ZS, ZD, ZN] at hb7z))
                obtain ⟨s7, A7, n7, c7, B7, m7, d7, rfl⟩ := r7.form
                have hBw7 : Below w.heap.size w w7 := HBCW.out.trans (hb7.mono HBCW.out.size)
                have Y2 := (hb7.cell (p := ⟨w.heap.size, 2, none⟩) hwc).trans y2c
                have Y3 := (hb7.cell (p := ⟨w.heap.size, 3, none⟩) hwc).trans y3c
                have hw7 : w.heap.size < w7.heap.size := by have := hb7.size; omega
                have R7 := Lib.hid r7
                have yy2 := fun o1 o2 => Lib.cell?_alloc_some o2 (Lib.cell?_alloc_some o1 Y2)
                have HBw7 := Lib.hid hBw7
                clear r7 hb7 hBw7 y0c y1c y2c y3c
                obtain ⟨W8, hW8⟩ : ∃ W8, W8 = w7.alloc (.cells #[.bool s7, .slice A7 n7 c7, .slice B7 m7 d7] 30) := ⟨_, rfl⟩
                have h78 : Below w7.heap.size w7 W8 := by rw [hW8]; exact (Below.refl _ _).alloc (Nat.le_refl _) _
                have hz8 : W8.heap.size = w7.heap.size + 1 := by rw [hW8]; simp
                have N0 : W8.cell? ⟨w7.heap.size, 0, none⟩ = some (.bool s7) := by rw [hW8]; simp
                have N1 : W8.cell? ⟨w7.heap.size, 1, none⟩ = some (.slice A7 n7 c7) := by rw [hW8]; simp
                have N2 : W8.cell? ⟨w7.heap.size, 2, none⟩ = some (.slice B7 m7 d7) := by rw [hW8]; simp
                have Y2' := (h78.cell (p := ⟨w.heap.size, 2, none⟩) hw7).trans Y2
                have Y3' := (h78.cell (p := ⟨w.heap.size, 3, none⟩) hw7).trans Y3
                have HBW8 := Lib.hid (HBw7.out.trans (h78.mono HBw7.out.size))
                have R8 := Lib.hid (R7.out.kp (Kp.of_below h78))
                have HV0 : Hid (VarR (w7.heap.size + 1) (FB 0) (W8.alloc (.cells #[.bool false, .slice none 0 0, .slice none 0 0] 30))) := by
                  have h1 := VarR.new W8
                  rw [hz8] at h1
                  rw [HB0.out]
                  exact h1
                have HW8 := Lib.hid hW8
                clear hW8 h78 R7
                go_wp2
                rw [← HW8.out]
                go_loopw [97] (fun i wr => ∃ k : Nat, k ≤ c.nm ∧ i = .int .i64 (k : Int) ∧ VarR (w7.heap.size + 1) (FB k) wr ∧ Below W8.heap.size W8 wr) (fun i _ => c.nm - (intOf i).toNat)
                case atStart => exact ⟨0, Nat.zero_le _, rfl, HV0.out, (Below.refl _ _).alloc (Nat.le_refl _) _⟩
                case round =>
                  clear yy2 Y2 Y3 HV0
                  obtain ⟨k, hk, rfl, vS, hb⟩ := hrel
                  have hz := hb.size
                  have hbw : Below w.heap.size w wr := HBW8.out.trans (hb.mono HBW8.out.size)
                  have hvz := vS.2.2.1
                  by_cases hlt : k < c.nm
                  · have y3 := (hb.cell (p := ⟨w.heap.size, 3, none⟩) (by show w.heap.size < _; omega)).trans Y3'
                    obtain ⟨bm, om, s1, A1, n1, c1, B1, m1, d1, rfl, hbm, g0, g1, g2, g3, g4, r1, hfn, htn, hft⟩ := HMV.out wr hbw k hlt
                    have hfN := HNN.out _ hfn
                    obtain ⟨bx, ox, s2, A2, n2, c2, B2, m2, d2, rfl, hbx, v0, v1, v2, rf2⟩ := HV.out.at_ hfN
                    have e0 := (hbw.cell (lt_of_cell v0)).trans v0
                    have e1 := (hbw.cell (lt_of_cell v1)).trans v1
                    have e2 := (hbw.cell (lt_of_cell v2)).trans v2
                    have hdf := HDd.out wr hbw _ hfn
                    have hdt := HDd.out wr hbw _ htn
                    obtain ⟨q1, q2⟩ := HSQ.out k hlt
                    have hqv : valR (c.R k) = c.q k := rfl
                    have qm := r1.rdq (L := M) (by omega) (by omega)
                    rw [hqv] at qm
                    have qf := ((show RdS w _ _ (canR (X (c.f k))) from rf2).kp (Kp.of_below hbw)).canQ (HXS.out (c.f k))
                    have hFY := HBY.out k
                    have hFN := HBN.out k
                    have hS9 := HSQ2.out k hlt (c.f k)
                    have hSk := HSB.out k hk
                    obtain ⟨f, hf⟩ : ∃ f, f = c.f k := ⟨_, rfl⟩
                    obtain ⟨tt, ht⟩ : ∃ tt, tt = c.t k := ⟨_, rfl⟩
                    obtain ⟨q, hq⟩ : ∃ q, q = c.q k := ⟨_, rfl⟩
                    rw [← hf] at g0 e0 e1 e2 hfn hfN hft qf hS9 hdf hFY hFN
                    rw [← ht] at g1 htn hft hdt hFY hFN
                    rw [← hq] at hFY qm hS9
                    have K1 := Lib.hid (fun W (hb : Below wr.heap.size wr W) => mulQ (qf.below hb) (qm.below hb) (by omega) (by omega))
                    have HVS := Lib.hid vS
                    have HB := Lib.hid hb
                    clear hf ht hq hqv q1 q2 rf2 r1 v0 v1 v2 qm qf vS hb
                    have hki : (k : Int) < (c.nm : Int) := by omega
                    have hk0 : (0 : Int) ≤ (k : Int) := by omega
                    have hfi : (f : Int) < (c.nd : Int) := by omega
                    have hfiN : (f : Int) < (n : Int) := by omega
                    have hf0 : (0 : Int) ≤ (f : Int) := by omega
                    have hti : (tt : Int) < (c.nd : Int) := by omega
                    have ht0 : (0 : Int) ≤ (tt : Int) := by omega
                    have hbx9 : bx < wr.heap.size := by have := hbw.size; omega
                    have hbd9 : bd < wr.heap.size := by have := hbw.size; omega
                    have hw9 : w.heap.size < wr.heap.size := by omega
                    (have ogc := fun o i => below_at ((Below.refl wr.heap.size wr).alloc (Nat.le_refl _) o) (w.heap.size) i (by omega)); (have ogf := fun o i => below_fr ((Below.refl wr.heap.size wr).alloc (Nat.le_refl _) o) (w.heap.size) i (by omega))
                    (have ovdc := fun o i => below_at ((Below.refl wr.heap.size wr).alloc (Nat.le_refl _) o) (bd) i (by omega)); (have ovdf := fun o i => below_fr ((Below.refl wr.heap.size wr).alloc (Nat.le_refl _) o) (bd) i (by omega))
                    have hal : Below wr.heap.size wr (wr.alloc (.cells #[.int .i64 (f : Int), .int .i64 (tt : Int), .bool s1, .slice A1 n1 c1, .slice B1 m1 d1] 33)) := (Below.refl _ _).alloc (Nat.le_refl _) _
                    have HAL := Lib.hid hal
                    clear hal
                    cases hDf : c.D f
                    · rw [hDf] at hdf
                      have HE := Lib.hid (hFN (by rw [hDf]; rfl))
                      clear hDf hFY hFN
                      go_wp2
                      go_roundw
                      case rel => exact ⟨k + 1, by omega, by go_num, by rw [HE.out]; exact HVS.out.below HAL.out, HB.out.trans (HAL.out.mono (by omega))⟩
                      case measure => simp [intOf]; omega
                    · cases hDt : c.D tt
                      · rw [hDf] at hdf
                        rw [hDt] at hdt
                        have HE := Lib.hid (hFY hDf hDt)
                        clear hDf hDt hFY hFN
                        go_wp2
                        generalize hwq : wr.alloc (.cells #[.int .i64 (f : Int), .int .i64 (tt : Int), .bool s1, .slice A1 n1 c1, .slice B1 m1 d1] 33) = wq at *
                        have hAL := HAL.out
                        have z0 : wq.cell? ⟨wr.heap.size, 0, none⟩ = some (.int .i64 (f : Int)) := by rw [← hwq]; simp
                        have z2 : wq.cell? ⟨wr.heap.size, 2, none⟩ = some (.bool s1) := by rw [← hwq]; simp
                        have z3 : wq.cell? ⟨wr.heap.size, 3, none⟩ = some (.slice A1 n1 c1) := by rw [← hwq]; simp
                        have z4 : wq.cell? ⟨wr.heap.size, 4, none⟩ = some (.slice B1 m1 d1) := by rw [← hwq]; simp
                        have hwz : wq.heap.size = wr.heap.size + 1 := by rw [← hwq]; simp
                        have V0 := (hAL.cell (p := ⟨bx, ox + f * 3, none⟩) hbx9).trans e0
                        have V1 := (hAL.cell (p := ⟨bx, ox + f * 3 + 1, none⟩) hbx9).trans e1
                        have V2 := (hAL.cell (p := ⟨bx, ox + f * 3 + 2, none⟩) hbx9).trans e2
                        have vq := HVS.out.below hAL
                        have HVQ := Lib.hid vq
                        obtain ⟨⟨s8, A8, n8, c8, B8, m8, d8, o0, o1, o2, r0⟩, hRB, hgz, hgf⟩ := vq
                        have qd := r0.canQ hSk
                        have KA := Lib.hid (fun W base v1 (hb : Below wq.heap.size wq W) (hv : OwQ W base v1 (X f * q)) => addQ (qd.below hb) (hv.rq hS9) (by omega) (by omega))
                        have ne1 : ¬ (wr.heap.size = w7.heap.size + 1) := by omega
                        have ne2 : ¬ (w7.heap.size + 1 = wr.heap.size) := by omega
                        have ne3 : ¬ (bx = w7.heap.size + 1) := by have := HBw7.out.size; omega
                        have ne4 : ¬ (w7.heap.size + 1 = bx) := by omega
                        clear r0 qd hAL hwq hRB g0 g1 g2 g3 g4 e0 e1 e2 ogc ogf ovdc ovdf y3 hdf hdt
                        rw [ld_later 30 (.tmp 15)]
                        go_region_held3 (fun W => W.cell? ⟨wr.heap.size, 0, none⟩ = some (.int .i64 (f : Int)) ∧ W.cell? ⟨wr.heap.size, 2, none⟩ = some (.bool s1) ∧ W.cell? ⟨wr.heap.size, 3, none⟩ = some (.slice A1 n1 c1) ∧ W.cell? ⟨wr.heap.size, 4, none⟩ = some (.slice B1 m1 d1) ∧ W.cell? ⟨bx, ox + f * 3, none⟩ = some (.bool s2) ∧ W.cell? ⟨bx, ox + f * 3 + 1, none⟩ = some (.slice A2 n2 c2) ∧ W.cell? ⟨bx, ox + f * 3 + 2, none⟩ = some (.slice B2 m2 d2)) (go_keep)
                          (first | ((go_at_call 12; (with_reducible refine (K1.out _ (HAL.out.trans (by (skip); repeat' (first | (with_reducible exact Below.refl _ _) | (with_reducible assumption) | (with_reducible refine Below.alloc ?_ ?_ _) | (with_reducible refine Below.drew ?_) | (with_reducible refine below_drewN ?_ _) | (with_reducible refine Below.setCell ?_ ?_ _) | (with_reducible refine Below.trans ?_ (Below.mono (by with_reducible assumption) ?_)) | omega | (simp only [ZA, ZS, ZD, ZN]; omega) | go_size)))).mono ?_); rintro e w11 ⟨⟨v6, rfl, own6⟩, hb6⟩; have hb6z := Below.size hb6; (try simp only [ZA, ZS, ZD] at hb6z); have hb6c0 := fun o => below_at hb6 (w7.heap.size + 1) o (by first | omega | (simp only [ZA, ZS, ZD]; omega)); have hb6f0 := fun o => below_fr hb6 (w7.heap.size + 1) o (by first | omega | (simp only [ZA, ZS, ZD]; omega)); have hb6l0 : w7.heap.size + 1 < (w11).heap.size := (by omega); have hb6c1 := fun o => below_at hb6 (wr.heap.size) o (by first | omega | (simp only [ZA, ZS, ZD]; omega)); have hb6f1 := fun o => below_fr hb6 (wr.heap.size) o (by first | omega | (simp only [ZA, ZS, ZD]; omega)); have hb6l1 : wr.heap.size < (w11).heap.size := (by omega); have hb6c2 := fun o => below_at hb6 (bx) o (by first | omega | (simp only [ZA, ZS, ZD]; omega)); have hb6f2 := fun o => below_fr hb6 (bx) o (by first | omega | (simp only [ZA, ZS, ZD]; omega)); have hb6l2 : bx < (w11).heap.size := (by omega)); obtain ⟨s4, A4, n4, c4, B4, m4, d4, rfl⟩ := own6.form) | ((go_at_call 29; (with_reducible refine (KA.out _ _ _ (by have z0 := Below.size hb6; (try simp only [ZA, ZS, ZD, ZN] at z0 ⊢; skip); repeat' (first | (with_reducible exact Below.refl _ _) | (with_reducible assumption) | (with_reducible refine Below.alloc ?_ ?_ _) | (with_reducible refine Below.drew ?_) | (with_reducible refine below_drewN ?_ _) | (with_reducible refine Below.setCell ?_ ?_ _) | (with_reducible refine Below.trans ?_ (Below.mono (by with_reducible assumption) ?_)) | omega | (simp only [ZA, ZS, ZD, ZN]; omega) | go_size)) own6).mono ?_); rintro e w12 ⟨⟨v7, rfl, own7⟩, hb7⟩; have hb7z := Below.size hb7; (try simp only [ZA, ZS, ZD] at hb7z); have hb7c0 := fun o => below_at hb7 (w7.heap.size + 1) o (by first | omega | (simp only [ZA, ZS, ZD]; omega)); have hb7f0 := fun o => below_fr hb7 (w7.heap.size + 1) o (by first | omega | (simp only [ZA, ZS, ZD]; omega)); have hb7l0 : w7.heap.size + 1 < (w12).heap.size := (by omega); have hb7c1 := fun o => below_at hb7 (wr.heap.size) o (by first | omega | (simp only [ZA, ZS, ZD]; omega)); have hb7f1 := fun o => below_fr hb7 (wr.heap.size) o (by first | omega | (simp only [ZA, ZS, ZD]; omega)); have hb7l1 : wr.heap.size < (w12).heap.size := (by omega); have hb7c2 := fun o => below_at hb7 (bx) o (by first | omega | (simp only [ZA, ZS, ZD]; omega)); have hb7f2 := fun o => below_fr hb7 (bx) o (by first | omega | (simp only [ZA, ZS, ZD]; omega)); have hb7l2 : bx < (w12).heap.size := (by omega)); obtain ⟨s9, A9, n9, c9, B9, m9, d9, rfl⟩ := own7.form) | fail)
                        all_goals
                          have hb9 : Below wq.heap.size wq w12 := (by have z0 := Below.size hb6; have z1 := Below.size hb7; (try simp only [ZA, ZS, ZD, ZN] at z0 z1 ⊢; skip); repeat' (first | (with_reducible exact Below.refl _ _) | (with_reducible assumption) | (with_reducible refine Below.alloc ?_ ?_ _) | (with_reducible refine Below.drew ?_) | (with_reducible refine below_drewN ?_ _) | (with_reducible refine Below.setCell ?_ ?_ _) | (with_reducible refine Below.trans ?_ (Below.mono (by with_reducible assumption) ?_)) | omega | (simp only [ZA, ZS, ZD, ZN]; omega) | go_size))
                          have p1 := HVQ.out.below hb9
                          have nT := p1.put (own7.rs (b0 := 0))
                          rw [← HE.out] at nT
                          have hb57 : Below W8.heap.size W8 w12 := HB.out.trans ((HAL.out.trans (hb9.mono (by omega))).mono (by omega))
                          have nb := below_set3 hb57 (show W8.heap.size ≤ w7.heap.size + 1 by omega) (.bool s9) (.slice A9 n9 c9) (.slice B9 m9 d9)
                          have HNT := Lib.hid nT
                          have HNB := Lib.hid nb
                          clear nT nb hb57 p1 hb9
                          go_wp2
                          go_roundw
                          case rel => exact ⟨k + 1, by omega, by go_num, HNT.out, HNB.out⟩
                          case measure => simp [intOf]; omega
                      · rw [hDf] at hdf
                        rw [hDt] at hdt
                        have HE := Lib.hid (hFN (by rw [hDf, hDt]; rfl))
                        clear hDf hDt hFY hFN
                        go_wp2
                        go_roundw
                        case rel => exact ⟨k + 1, by omega, by go_num, by rw [HE.out]; exact HVS.out.below HAL.out, HB.out.trans (HAL.out.mono (by omega))⟩
                        case measure => simp [intOf]; omega
                  · have hkm : k = c.nm := by omega
                    have hFBk : FB k = FR := by rw [hkm]; exact HP2'.out.symm
                    have HBF := Lib.hid hbw
                    have M0 := (hb.cell (p := ⟨w7.heap.size, 0, none⟩) (by show w7.heap.size < _; omega)).trans N0
                    have M1 := (hb.cell (p := ⟨w7.heap.size, 1, none⟩) (by show w7.heap.size < _; omega)).trans N1
                    have M2 := (hb.cell (p := ⟨w7.heap.size, 2, none⟩) (by show w7.heap.size < _; omega)).trans N2
                    have qn := (R8.out.kp (Kp.of_below hb)).canQ HSF.out
                    rw [hFBk] at vS
                    obtain ⟨⟨s8, A8, n8, c8, B8, m8, d8, o0, o1, o2, r0⟩, -, -, -⟩ := vS
                    have qb := r0.canQ HSF.out
                    have KC : Hid (Calls Tryz.prog 17 #[rv s7 A7 n7 c7 B7 m7 d7, rv s8 A8 n8 c8 B8 m8 d8] wr fun e w' => e = .returned (.int .i64 0) ∧ Below wr.heap.size wr w') := by
                      show Calls _ _ _ _ _
                      have := cmpQ qn qb (by omega) (by omega)
                      rw [Rat.sub_self] at this
                      exact this
                    clear qn qb r0 hb hbw hFBk hkm
                    (go_wp2_with fail; (with_reducible refine (KC.out).mono ?_); rintro e w13 ⟨rfl, hb13⟩; have hb13z := Below.size hb13; (try simp only [ZA, ZS, ZD, ZN] at hb13z))
                    go_wp2
                    go_ret
                    exact ⟨rfl, HBF.out.trans (hb13.mono HBF.out.size)⟩
      · obtain ⟨cb, hcb⟩ : ∃ cb, cb = c.codeB n R := ⟨_, rfl⟩
        rw [← hcb] at KE2 hB
        have e1 : (cb != 0) = true := by simpa using hB
        clear KE hcb hB ok h0 hS h6 HF HI HRV KF KB HBA
        (go_wp2_with fail; (with_reducible refine (KE2.out _ hB2).mono ?_); rintro e w3 ⟨rfl, hb3⟩; have hb3z := Below.size hb3; (try simp only [ZA, ZS, ZD, ZN] at hb3z))
        have hB3 : Below w.heap.size w w3 := hB2.trans (hb3.mono hB2.size)
        (go_wp2_with fail; (with_reducible refine (awake52_any _).mono ?_); rintro e w4 ⟨rfl, hb4⟩; have hb4z := Below.size hb4; (try simp only [ZA, ZS, ZD, ZN] at hb4z))
        go_wp2
        go_ret
        exact ⟨rfl, hB3.trans (hb4.mono hB3.size)⟩
end Go.Proofs.YtmebdlilbnadgaaGreatDoor
