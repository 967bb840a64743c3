/- Contracts of functions and lemmas, used by the proofs of the given statements. No condition beyond those that each lemma names. -/
import Derived.Test.YtomkdgcpmpbfhaaGreatDoorAbL
import Derived.Test.YtomkdgcpmpbfhaaGreatDoorAbJ
import Derived.Test.YtomkdgcpmpbfhaaGreatDoorAbE
import Derived.Test.YtomkdgcpmpbfhaaGreatDoorBaseBig
namespace Go.Proofs.YtomkdgcpmpbfhaaGreatDoor
open Go.RowKit
set_option linter.unusedSimpArgs false
set_option linter.unusedVariables false
set_option maxRecDepth 20000
attribute [local irreducible] nv wp win plainB validR valR canR mvE chkM codeC spr sprN chg cnt cntB ixB kept sysK plB parM outK gj
/-! ## AbsorbSolves -/
theorem outA_le {c : Chn} (hS : Small c) : outN' c.codeA c.nd ≤ 9 := by
  unfold outN'
  split
  · rename_i h0; exact hS.nd (Chn.codeA_ok h0)
  · omega
theorem outA_lt {c : Chn} {k : Nat} (h : k < outN' c.codeA c.nd) : c.codeA = 0 ∧ k < c.nd := by
  unfold outN' at h
  split at h
  · rename_i h0; exact ⟨h0, h⟩
  · omega
theorem big_can {n M : Nat} {x : Nat → Rat} (hM : M ≤ 1000000000) (h : ∀ k, k < n → Sz M (x k)) : ∀ k, k < n → (can x k).2.1.length ≤ 1000000000 ∧ (can x k).2.2.length ≤ 1000000000 := fun k hk => by
  have := Sz_canR (h k hk)
  show (canR (x k)).2.1.length ≤ _ ∧ (canR (x k)).2.2.length ≤ _
  omega
theorem times_big {c : Chn} (hS : Small c) : ∀ k, k < outN' c.codeA c.nd → (can c.times k).2.1.length ≤ 1000000000 ∧ (can c.times k).2.2.length ≤ 1000000000 := by
  obtain ⟨M, hM⟩ : ∃ M, M = 21400000 := ⟨_, rfl⟩
  refine big_can (M := M) (by omega) fun k hk => ?_
  obtain ⟨h0, h1⟩ := outA_lt hk
  rw [hM]
  exact hS.sol_sz h0 false h1
theorem visits_big {c : Chn} (hS : Small c) : ∀ k, k < outN' c.codeA c.nd → (can c.visits k).2.1.length ≤ 1000000000 ∧ (can c.visits k).2.2.length ≤ 1000000000 := by
  obtain ⟨M, hM⟩ : ∃ M, M = 21400000 := ⟨_, rfl⟩
  refine big_can (M := M) (by omega) fun k hk => ?_
  obtain ⟨h0, h1⟩ := outA_lt hk
  rw [hM]
  exact hS.sol_sz h0 true h1
theorem ends_big {c : Chn} (hS : Small c) : ∀ k, k < outN' c.codeA c.nd → (can c.ends k).2.1.length ≤ 1000000000 ∧ (can c.ends k).2.2.length ≤ 1000000000 := by
  obtain ⟨M, hM⟩ : ∃ M, M = 220000100 := ⟨_, rfl⟩
  refine big_can (M := M) (by omega) fun k hk => ?_
  obtain ⟨h0, h1⟩ := outA_lt hk
  have ok := Chn.codeA_ok h0
  have hfz : FzL 220000000 c.visits := hS.sol_fz h0 true
  exact ((hfz.endK (F := c.f) (T := c.t) (B := fun k => c.lv (c.f k) && c.D (c.t k)) (hS.rts ok) c.end01 c.nm (Nat.le_refl _)).sz (by omega) k).more (by omega)
set_option maxHeartbeats 16000000 in
theorem absorbSolves_law {w : World} {AM AD : Option Addr} {cm cd : Nat} {c : Chn} (h : ChI w w.heap.size AM cm AD cd c) :
    Calls Tryz.prog 3 #[cv c.st c.sr AM c.nm cm AD c.nd cd] w fun e w' => e = .returned (.bool true) ∧ Below w.heap.size w w' := by
  have KF := Lib.hid (fun W (hb : Below w.heap.size w W) => few_any (h.below hb))
  have HI := Lib.hid (fun W (hb : Below w.heap.size w W) => h.below hb)
  have HSm := Lib.hid (fun (hf : FewP c) => hf.small h)
  have hbA : Below w.heap.size w (w.alloc (.cells #[.int .i64 c.st, .int .i64 c.sr, .slice AM c.nm cm, .slice AD c.nd cd] 25)) := (Below.refl _ _).alloc (Nat.le_refl _) _
  have HBA := Lib.hid hbA
  clear h hbA
  go_enter Tryz.func3, Tryz.ntmps3
  (go_wp2_with fail; (with_reducible refine (KF.out _ HBA.out).mono ?_); rintro e w1 ⟨⟨bb, rfl, hbb⟩, hb1⟩; have hb1z := Below.size hb1; (try simp only [World.size_alloc, World.size_setCell, World.size_drew, size_drewN'] at hb1z); have hb1c0 := fun o => below_at hb1 (w.heap.size) o (by first | omega | (simp only [World.size_alloc, World.size_setCell, World.size_drew, size_drewN']; omega)); have hb1f0 := fun o => below_fr hb1 (w.heap.size) o (by first | omega | (simp only [World.size_alloc, World.size_setCell, World.size_drew, size_drewN']; omega)))
  have hB1 : Below w.heap.size w w1 := HBA.out.trans (hb1.mono (by simp))
  cases bb with
  | false =>
    clear hbb
    (go_wp2_with fail; (with_reducible refine (awake4_any _).mono ?_); rintro e w2 ⟨rfl, hb2⟩; have hb2z := Below.size hb2; (try simp only [World.size_alloc, World.size_setCell, World.size_drew, size_drewN'] at hb2z))
    go_wp2
    go_ret
    exact ⟨rfl, hB1.trans (hb2.mono hB1.size)⟩
  | true =>
    have HS := Lib.hid (HSm.out (hbb rfl))
    clear hbb
    have hz1 := hB1.size
    have hw1 : w.heap.size < w1.heap.size := by have := hb1.size; simp at this; omega
    obtain ⟨ct, hct⟩ : ∃ ct, ct = c.codeA := ⟨_, rfl⟩
    obtain ⟨m, hm⟩ : ∃ m, m = outN' c.codeA c.nd := ⟨_, rfl⟩
    obtain ⟨lv, hlv⟩ : ∃ lv, lv = c.lv := ⟨_, rfl⟩
    obtain ⟨xt, hxt⟩ : ∃ xt, xt = c.times := ⟨_, rfl⟩
    obtain ⟨xv, hxv⟩ : ∃ xv, xv = c.visits := ⟨_, rfl⟩
    obtain ⟨xe, hxe⟩ : ∃ xe, xe = c.ends := ⟨_, rfl⟩
    have K3 : Hid (∀ W, Below w.heap.size w W → Calls Tryz.prog 9 #[cv c.st c.sr AM c.nm cm AD c.nd cd] W fun e w' => AnsB errM m lv ct e w' ∧ Below W.heap.size W w') := fun W hb => (Live_any (HI.out W hb) HS.out.sysS).mono fun e w' h => ⟨by rw [hm, hlv, hct]; exact h.1, h.2⟩
    have K4 : Hid (∀ W, Below w.heap.size w W → Calls Tryz.prog 10 #[cv c.st c.sr AM c.nm cm AD c.nd cd] W fun e w' => AnsV errM m xt ct e w' ∧ Below W.heap.size W w') := fun W hb => (Times_any (HI.out W hb) HS.out.sysS).mono fun e w' h => ⟨by rw [hm, hxt, hct]; exact h.1, h.2⟩
    have K5 : Hid (∀ W, Below w.heap.size w W → Calls Tryz.prog 11 #[cv c.st c.sr AM c.nm cm AD c.nd cd] W fun e w' => AnsV errM m xv ct e w' ∧ Below W.heap.size W w') := fun W hb => (Visits_any (HI.out W hb) HS.out.sysS).mono fun e w' h => ⟨by rw [hm, hxv, hct]; exact h.1, h.2⟩
    have K6 : Hid (∀ W, Below w.heap.size w W → Calls Tryz.prog 12 #[cv c.st c.sr AM c.nm cm AD c.nd cd] W fun e w' => AnsV errM m xe ct e w' ∧ Below W.heap.size W w') := fun W hb => (Ends_any (HI.out W hb) HS.out).mono fun e w' h => ⟨by rw [hm, hxe, hct]; exact h.1, h.2⟩
    have K7 : Hid (∀ W, Below w.heap.size w W → Calls Tryz.prog 13 #[cv c.st c.sr AM c.nm cm AD c.nd cd] W fun e w' => AnsB intV m lv ct e w' ∧ Below W.heap.size W w') := fun W hb => (rLive_any (HI.out W hb) HS.out.sysS).mono fun e w' h => ⟨by rw [hm, hlv, hct]; exact h.1, h.2⟩
    have K8 : Hid (∀ W, Below w.heap.size w W → Calls Tryz.prog 14 #[cv c.st c.sr AM c.nm cm AD c.nd cd] W fun e w' => AnsV intV m xt ct e w' ∧ Below W.heap.size W w') := fun W hb => (rTimes_any (HI.out W hb) HS.out.sysS).mono fun e w' h => ⟨by rw [hm, hxt, hct]; exact h.1, h.2⟩
    have K9 : Hid (∀ W, Below w.heap.size w W → Calls Tryz.prog 15 #[cv c.st c.sr AM c.nm cm AD c.nd cd] W fun e w' => AnsV intV m xv ct e w' ∧ Below W.heap.size W w') := fun W hb => (rVisits_any (HI.out W hb) HS.out.sysS).mono fun e w' h => ⟨by rw [hm, hxv, hct]; exact h.1, h.2⟩
    have K10 : Hid (∀ W, Below w.heap.size w W → Calls Tryz.prog 16 #[cv c.st c.sr AM c.nm cm AD c.nd cd] W fun e w' => AnsV intV m xe ct e w' ∧ Below W.heap.size W w') := fun W hb => (rEnds_any (HI.out W hb) HS.out).mono fun e w' h => ⟨by rw [hm, hxe, hct]; exact h.1, h.2⟩
    have HXT : Hid (∀ k, k < m → (can xt k).2.1.length ≤ 1000000000 ∧ (can xt k).2.2.length ≤ 1000000000) := by show ∀ _, _; rw [hm, hxt]; exact times_big HS.out
    have HXV : Hid (∀ k, k < m → (can xv k).2.1.length ≤ 1000000000 ∧ (can xv k).2.2.length ≤ 1000000000) := by show ∀ _, _; rw [hm, hxv]; exact visits_big HS.out
    have HXE : Hid (∀ k, k < m → (can xe k).2.1.length ≤ 1000000000 ∧ (can xe k).2.2.length ≤ 1000000000) := by show ∀ _, _; rw [hm, hxe]; exact ends_big HS.out
    have hm9 : m ≤ 9 := by rw [hm]; exact outA_le HS.out
    clear hm hct hlv hxt hxv hxe HS HSm HI KF
    (go_wp2_with fail; (with_reducible refine (awake4_any _).mono ?_); rintro e w2 ⟨rfl, hb2⟩; have hb2z := Below.size hb2; (try simp only [World.size_alloc, World.size_setCell, World.size_drew, size_drewN'] at hb2z); have hb2c0 := fun o => below_at hb2 (w.heap.size) o (by first | omega | (simp only [World.size_alloc, World.size_setCell, World.size_drew, size_drewN']; omega)); have hb2f0 := fun o => below_fr hb2 (w.heap.size) o (by first | omega | (simp only [World.size_alloc, World.size_setCell, World.size_drew, size_drewN']; omega)))
    have hB2 : Below w.heap.size w w2 := hB1.trans (hb2.mono hB1.size)
    have hz2 := hB2.size
    (go_wp2_with fail; (with_reducible refine (K3.out _ hB2).mono ?_); rintro e w3 ⟨⟨A3, c3, rfl, r3⟩, hb3⟩; have hb3z := Below.size hb3; (try simp only [World.size_alloc, World.size_setCell, World.size_drew, size_drewN'] at hb3z); have hb3c0 := fun o => below_at hb3 (w.heap.size) o (by first | omega | (simp only [World.size_alloc, World.size_setCell, World.size_drew, size_drewN']; omega)); have hb3f0 := fun o => below_fr hb3 (w.heap.size) o (by first | omega | (simp only [World.size_alloc, World.size_setCell, World.size_drew, size_drewN']; omega)))
    have hB3 : Below w.heap.size w w3 := hB2.trans (hb3.mono hB2.size)
    (go_wp2_with fail; (with_reducible refine (K4.out _ hB3).mono ?_); rintro e w4 ⟨⟨A4, c4, rfl, r4⟩, hb4⟩; have hb4z := Below.size hb4; (try simp only [World.size_alloc, World.size_setCell, World.size_drew, size_drewN'] at hb4z); have hb4c0 := fun o => below_at hb4 (w.heap.size) o (by first | omega | (simp only [World.size_alloc, World.size_setCell, World.size_drew, size_drewN']; omega)); have hb4f0 := fun o => below_fr hb4 (w.heap.size) o (by first | omega | (simp only [World.size_alloc, World.size_setCell, World.size_drew, size_drewN']; omega)))
    have hB4 : Below w.heap.size w w4 := hB3.trans (hb4.mono hB3.size)
    (go_wp2_with fail; (with_reducible refine (K5.out _ hB4).mono ?_); rintro e w5 ⟨⟨A5, c5, rfl, r5⟩, hb5⟩; have hb5z := Below.size hb5; (try simp only [World.size_alloc, World.size_setCell, World.size_drew, size_drewN'] at hb5z); have hb5c0 := fun o => below_at hb5 (w.heap.size) o (by first | omega | (simp only [World.size_alloc, World.size_setCell, World.size_drew, size_drewN']; omega)); have hb5f0 := fun o => below_fr hb5 (w.heap.size) o (by first | omega | (simp only [World.size_alloc, World.size_setCell, World.size_drew, size_drewN']; omega)))
    have hB5 : Below w.heap.size w w5 := hB4.trans (hb5.mono hB4.size)
    (go_wp2_with fail; (with_reducible refine (K6.out _ hB5).mono ?_); rintro e w6 ⟨⟨A6, c6, rfl, r6⟩, hb6⟩; have hb6z := Below.size hb6; (try simp only [World.size_alloc, World.size_setCell, World.size_drew, size_drewN'] at hb6z); have hb6c0 := fun o => below_at hb6 (w.heap.size) o (by first | omega | (simp only [World.size_alloc, World.size_setCell, World.size_drew, size_drewN']; omega)); have hb6f0 := fun o => below_fr hb6 (w.heap.size) o (by first | omega | (simp only [World.size_alloc, World.size_setCell, World.size_drew, size_drewN']; omega)))
    have hB6 : Below w.heap.size w w6 := hB5.trans (hb6.mono hB5.size)
    (go_wp2_with fail; (with_reducible refine (K7.out _ hB6).mono ?_); rintro e w7 ⟨⟨A7, c7, rfl, r7⟩, hb7⟩; have hb7z := Below.size hb7; (try simp only [World.size_alloc, World.size_setCell, World.size_drew, size_drewN'] at hb7z); have hb7c0 := fun o => below_at hb7 (w.heap.size) o (by first | omega | (simp only [World.size_alloc, World.size_setCell, World.size_drew, size_drewN']; omega)); have hb7f0 := fun o => below_fr hb7 (w.heap.size) o (by first | omega | (simp only [World.size_alloc, World.size_setCell, World.size_drew, size_drewN']; omega)))
    have hB7 : Below w.heap.size w w7 := hB6.trans (hb7.mono hB6.size)
    (go_wp2_with fail; (with_reducible refine (K8.out _ hB7).mono ?_); rintro e w8 ⟨⟨A8, c8, rfl, r8⟩, hb8⟩; have hb8z := Below.size hb8; (try simp only [World.size_alloc, World.size_setCell, World.size_drew, size_drewN'] at hb8z); have hb8c0 := fun o => below_at hb8 (w.heap.size) o (by first | omega | (simp only [World.size_alloc, World.size_setCell, World.size_drew, size_drewN']; omega)); have hb8f0 := fun o => below_fr hb8 (w.heap.size) o (by first | omega | (simp only [World.size_alloc, World.size_setCell, World.size_drew, size_drewN']; omega)))
    have hB8 : Below w.heap.size w w8 := hB7.trans (hb8.mono hB7.size)
    (go_wp2_with fail; (with_reducible refine (K9.out _ hB8).mono ?_); rintro e w9 ⟨⟨A9, c9, rfl, r9⟩, hb9⟩; have hb9z := Below.size hb9; (try simp only [World.size_alloc, World.size_setCell, World.size_drew, size_drewN'] at hb9z); have hb9c0 := fun o => below_at hb9 (w.heap.size) o (by first | omega | (simp only [World.size_alloc, World.size_setCell, World.size_drew, size_drewN']; omega)); have hb9f0 := fun o => below_fr hb9 (w.heap.size) o (by first | omega | (simp only [World.size_alloc, World.size_setCell, World.size_drew, size_drewN']; omega)))
    have hB9 : Below w.heap.size w w9 := hB8.trans (hb9.mono hB8.size)
    (go_wp2_with fail; (with_reducible refine (K10.out _ hB9).mono ?_); rintro e w10 ⟨⟨A10, c10, rfl, r10⟩, hb10⟩; have hb10z := Below.size hb10; (try simp only [World.size_alloc, World.size_setCell, World.size_drew, size_drewN'] at hb10z))
    have hB10 : Below w.heap.size w w10 := hB9.trans (hb10.mono hB9.size)
    have h910 : Below w9.heap.size w9 w10 := hb10
    have h810 : Below w8.heap.size w8 w10 := hb9.trans (h910.mono hb9.size)
    have h710 : Below w7.heap.size w7 w10 := hb8.trans (h810.mono hb8.size)
    have h610 : Below w6.heap.size w6 w10 := hb7.trans (h710.mono hb7.size)
    have h510 : Below w5.heap.size w5 w10 := hb6.trans (h610.mono hb6.size)
    have h410 : Below w4.heap.size w4 w10 := hb5.trans (h510.mono hb5.size)
    have h310 : Below w3.heap.size w3 w10 := hb4.trans (h410.mono hb4.size)
    have K11 := Lib.hid (fun W (hb : Below w10.heap.size w10 W) => bools_same (c := c3) (d := c7) (r3.below (h310.trans (hb.mono h310.size))) (r7.below (h710.trans (hb.mono h710.size))) (by omega))
    have K12 := Lib.hid (fun W (hb : Below w10.heap.size w10 W) => rats_sameB (c := c4) (d := c8) (r4.below (h410.trans (hb.mono h410.size))) (r8.below (h810.trans (hb.mono h810.size))) (by omega) HXT.out)
    have K13 := Lib.hid (fun W (hb : Below w10.heap.size w10 W) => rats_sameB (c := c5) (d := c9) (r5.below (h510.trans (hb.mono h510.size))) (r9.below (h910.trans (hb.mono h910.size))) (by omega) HXV.out)
    have K14 := Lib.hid (fun W (hb : Below w10.heap.size w10 W) => rats_sameB (c := c6) (d := c10) (r6.below (h610.trans (hb.mono h610.size))) (r10.below hb) (by omega) HXE.out)
    have ect : (ct == ct) = true := by simp
    clear r3 r4 r5 r6 r7 r8 r9 r10 h310 h410 h510 h610 h710 h810 h910 K3 K4 K5 K6 K7 K8 K9 K10 HXT HXV HXE
    go_wp2_with fail
    (with_reducible refine (bnum_e _ _).mono ?_)
    rintro e _ ⟨rfl, rfl⟩
    (go_wp2_with fail; (with_reducible refine (K11.out _ (Below.refl _ _)).mono ?_); rintro e w11 ⟨rfl, hb11⟩; have hb11z := Below.size hb11; (try simp only [World.size_alloc, World.size_setCell, World.size_drew, size_drewN'] at hb11z))
    have hc11 : Below w10.heap.size w10 w11 := hb11
    go_wp2_with fail
    (with_reducible refine (bnum_e _ _).mono ?_)
    rintro e _ ⟨rfl, rfl⟩
    (go_wp2_with fail; (with_reducible refine (K12.out _ hc11).mono ?_); rintro e w12 ⟨rfl, hb12⟩; have hb12z := Below.size hb12; (try simp only [World.size_alloc, World.size_setCell, World.size_drew, size_drewN'] at hb12z))
    have hc12 : Below w10.heap.size w10 w12 := hc11.trans (hb12.mono hc11.size)
    go_wp2_with fail
    (with_reducible refine (bnum_e _ _).mono ?_)
    rintro e _ ⟨rfl, rfl⟩
    (go_wp2_with fail; (with_reducible refine (K13.out _ hc12).mono ?_); rintro e w13 ⟨rfl, hb13⟩; have hb13z := Below.size hb13; (try simp only [World.size_alloc, World.size_setCell, World.size_drew, size_drewN'] at hb13z))
    have hc13 : Below w10.heap.size w10 w13 := hc12.trans (hb13.mono hc12.size)
    go_wp2_with fail
    (with_reducible refine (bnum_e _ _).mono ?_)
    rintro e _ ⟨rfl, rfl⟩
    (go_wp2_with fail; (with_reducible refine (K14.out _ hc13).mono ?_); rintro e w14 ⟨rfl, hb14⟩; have hb14z := Below.size hb14; (try simp only [World.size_alloc, World.size_setCell, World.size_drew, size_drewN'] at hb14z))
    have hc14 : Below w10.heap.size w10 w14 := hc13.trans (hb14.mono hc13.size)
    go_wp2
    go_ret
    exact ⟨rfl, hB10.trans (hc14.mono hB10.size)⟩
end Go.Proofs.YtomkdgcpmpbfhaaGreatDoor
