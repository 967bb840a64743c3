/- Contracts of functions and lemmas, used by the proofs of the given statements. No condition beyond those that each lemma names. -/
import Derived.Test.YtglpknhcneggeaaGreatDoorEndR
namespace Go.Proofs.YtglpknhcneggeaaGreatDoor
open Go.RowKit
set_option linter.unusedSimpArgs false
set_option linter.unusedVariables false
set_option maxRecDepth 20000
attribute [local irreducible] nv wp win plainB validR valR canR mvE chkM codeC exK maxF dsum
/-! ## TransientRuns -/
theorem outN_300 {c : Chn} (hS : Small c) {r : Rw} {n : Int} (hn : n ≤ 6 ∨ 48 < n) : outN' (c.codeN r n) c.nd ≤ 300 ∧ outN' (c.codeN r n) (n.toNat + 1) ≤ 300 := by
  by_cases h0 : c.codeN r n = 0
  · have h3 := Chn.codeN_0 h0
    have h4 := Chn.codeN_ok h0
    have := hS.nd h4.1
    exact ⟨Nat.le_trans outN_le' (by omega), Nat.le_trans outN_le' (by omega)⟩
  · unfold outN'
    rw [if_neg h0, if_neg h0]
    omega
theorem Chn.runs_sz {c : Chn} {r : Rw} {n : Int} {ab : Bool} (hd : DnS c ab r n 400) (h0 : c.codeN r n = 0) : (∀ k, k < c.nd → Sz 400 (c.run ab (valR r) n.toNat k)) ∧ ∀ k, k < n.toNat + 1 → Sz 400 (c.dn ab (valR r) k) := by
  have h3 := Chn.codeN_0 h0
  exact ⟨fun k hk => (hd.ds h0 n.toNat (by omega)).2 k hk, fun k hk => (hd.ds h0 k (by omega)).1 _ (Nat.le_refl _)⟩
set_option maxHeartbeats 16000000 in
theorem transientRuns_law {w : World} {AM AD : Option Addr} {cm cd : Nat} {c : Chn} {v : Value} {r : Rw} {n : Int} (h : ChI w w.heap.size AM cm AD cd c) (hr : RdS w w.heap.size v r) (hn64 : IntKind.i64.wrap n = n) :
    Calls Tryz.prog 3 #[cv c.st c.sr AM c.nm cm AD c.nd cd, v, .int .i64 n] w fun e w' => e = .returned (.bool true) ∧ Below w.heap.size w w' := by
  have KF := Lib.hid (fun W (hb : Below w.heap.size w W) => few_any (h.below hb))
  have HI := Lib.hid (fun W (hb : Below w.heap.size w W) => h.below hb)
  have HRR := Lib.hid (fun W (hb : Below w.heap.size w W) => (hr.kp (Kp.of_below hb)).base hb.size)
  have HOK := Lib.hid hr.ok
  have HSm := Lib.hid (fun (hf : FewP c) => hf.small h)
  obtain ⟨s0, A0, n0, c0, B0, m0, d0, rfl⟩ := hr.form
  have hbA : Below w.heap.size w ((w.alloc (.cells #[.int .i64 c.st, .int .i64 c.sr, .slice AM c.nm cm, .slice AD c.nd cd] 25)).alloc (.cells #[.bool s0, .slice A0 n0 c0, .slice B0 m0 d0] 28)) := ((Below.refl _ _).alloc (Nat.le_refl _) _).alloc (by simp) _
  have HBA := Lib.hid hbA
  clear h hr hbA hn64
  go_enter Tryz.func3, Tryz.ntmps3
  (go_wp2_with fail; (with_reducible refine (KF.out _ HBA.out).mono ?_); rintro e w1 ⟨⟨bb, rfl, hbb⟩, hb1⟩; have hb1z := Below.size hb1; (try simp only [World.size_alloc, World.size_setCell, World.size_drew, size_drewN'] at hb1z); have hb1c0 := fun o => below_at hb1 (w.heap.size) o (by first | omega | (simp only [World.size_alloc, World.size_setCell, World.size_drew, size_drewN']; omega)); have hb1f0 := fun o => below_fr hb1 (w.heap.size) o (by first | omega | (simp only [World.size_alloc, World.size_setCell, World.size_drew, size_drewN']; omega)); have hb1c1 := fun o => below_at hb1 (w.heap.size + 1) o (by first | omega | (simp only [World.size_alloc, World.size_setCell, World.size_drew, size_drewN']; omega)); have hb1f1 := fun o => below_fr hb1 (w.heap.size + 1) o (by first | omega | (simp only [World.size_alloc, World.size_setCell, World.size_drew, size_drewN']; omega)))
  have hB1 : Below w.heap.size w w1 := HBA.out.trans (hb1.mono (by simp; omega))
  cases bb with
  | false =>
    clear hbb
    (go_wp2_with fail; (with_reducible refine (awake_any _).mono ?_); rintro e w2 ⟨rfl, hb2⟩; have hb2z := Below.size hb2; (try simp only [World.size_alloc, World.size_setCell, World.size_drew, size_drewN'] at hb2z))
    go_wp2
    go_ret
    exact ⟨rfl, hB1.trans (hb2.mono hB1.size)⟩
  | true =>
    have HS := Lib.hid (HSm.out (hbb rfl))
    have HF := Lib.hid (hbb rfl)
    clear hbb
    have hz1 := hB1.size
    have hw1 : w.heap.size + 1 < w1.heap.size := by have := hb1.size; simp at this; omega
    (have o1c := fun o i => below_at ((Below.refl w1.heap.size w1).alloc (Nat.le_refl _) o) (w.heap.size) i (by omega)); (have o1f := fun o i => below_fr ((Below.refl w1.heap.size w1).alloc (Nat.le_refl _) o) (w.heap.size) i (by omega))
    (have p1c := fun o i => below_at ((Below.refl w1.heap.size w1).alloc (Nat.le_refl _) o) (w.heap.size + 1) i (by omega)); (have p1f := fun o i => below_fr ((Below.refl w1.heap.size w1).alloc (Nat.le_refl _) o) (w.heap.size + 1) i (by omega))
    have hbR : Below w.heap.size w (w1.alloc (.cells #[.bool s0, .slice A0 n0 c0, .slice B0 m0 d0] 28)) := hB1.alloc hz1 _
    have KR := Lib.hid (brief_any (c := 1) (RowA.one (W := w1.alloc (.cells #[.bool s0, .slice A0 n0 c0, .slice B0 m0 d0] 28)) (g := w1.heap.size) (HRR.out _ hbR) (by simp) (by simp) (by simp) (by simp)))
    (go_wp2_with fail; (with_reducible refine (KR.out).mono ?_); rintro e w2 ⟨⟨b2, rfl, hb2'⟩, hb2⟩; have hb2z := Below.size hb2; (try simp only [World.size_alloc, World.size_setCell, World.size_drew, size_drewN'] at hb2z); have hb2c0 := fun o => below_at hb2 (w.heap.size) o (by first | omega | (simp only [World.size_alloc, World.size_setCell, World.size_drew, size_drewN']; omega)); have hb2f0 := fun o => below_fr hb2 (w.heap.size) o (by first | omega | (simp only [World.size_alloc, World.size_setCell, World.size_drew, size_drewN']; omega)); have hb2c1 := fun o => below_at hb2 (w.heap.size + 1) o (by first | omega | (simp only [World.size_alloc, World.size_setCell, World.size_drew, size_drewN']; omega)); have hb2f1 := fun o => below_fr hb2 (w.heap.size + 1) o (by first | omega | (simp only [World.size_alloc, World.size_setCell, World.size_drew, size_drewN']; omega)))
    have hB2 : Below w.heap.size w w2 := hbR.trans (hb2.mono (by simp; omega))
    cases b2 with
    | false =>
      clear hb2'
      (go_wp2_with fail; (with_reducible refine (awake_any _).mono ?_); rintro e w3 ⟨rfl, hb3⟩; have hb3z := Below.size hb3; (try simp only [World.size_alloc, World.size_setCell, World.size_drew, size_drewN'] at hb3z))
      go_wp2
      go_ret
      exact ⟨rfl, hB2.trans (hb3.mono hB2.size)⟩
    | true =>
      have HR1 := Lib.hid ((hb2' rfl).2 0 (by omega))
      clear hb2'
      by_cases hin : n ≤ 6 ∨ 48 < n
      · obtain ⟨ct, hct⟩ : ∃ ct, ct = c.codeN r n := ⟨_, rfl⟩
        obtain ⟨m1, hm1⟩ : ∃ m1, m1 = outN' (c.codeN r n) c.nd := ⟨_, rfl⟩
        obtain ⟨x1, hx1⟩ : ∃ x1, x1 = c.run false (valR r) n.toNat := ⟨_, rfl⟩
        obtain ⟨m2, hm2⟩ : ∃ m2, m2 = outN' (c.codeN r n) (n.toNat + 1) := ⟨_, rfl⟩
        obtain ⟨x2, hx2⟩ : ∃ x2, x2 = c.dn false (valR r) := ⟨_, rfl⟩
        obtain ⟨x3, hx3⟩ : ∃ x3, x3 = c.dn true (valR r) := ⟨_, rfl⟩
        have hdf := HS.out.dn (n := n) HOK.out HR1.out.1 HR1.out.2 (by omega) false
        have hdt := HS.out.dn (n := n) HOK.out HR1.out.1 HR1.out.2 (by omega) true
        have K5 : Hid (∀ W, Below w.heap.size w W → Calls Tryz.prog 14 #[cv c.st c.sr AM c.nm cm AD c.nd cd, rv s0 A0 n0 c0 B0 m0 d0, .int .i64 n] W fun e w' => AnsV errM m1 x1 ct e w' ∧ Below W.heap.size W w') := fun W hb => (after_any (HI.out W hb) HS.out.chS (HRR.out W hb) HR1.out.1 HR1.out.2 hdf.st).mono fun e w' h => ⟨by rw [hm1, hx1, hct]; exact h.1.out, h.2⟩
        have K6 : Hid (∀ W, Below w.heap.size w W → Calls Tryz.prog 15 #[cv c.st c.sr AM c.nm cm AD c.nd cd, rv s0 A0 n0 c0 B0 m0 d0, .int .i64 n] W fun e w' => AnsV errM m2 x2 ct e w' ∧ Below W.heap.size W w') := fun W hb => (Downs_any (HI.out W hb) HS.out.chS (HRR.out W hb) HR1.out.1 HR1.out.2 hdf).mono fun e w' h => ⟨by rw [hm2, hx2, hct]; exact h.1.out, h.2⟩
        have K7 : Hid (∀ W, Below w.heap.size w W → Calls Tryz.prog 16 #[cv c.st c.sr AM c.nm cm AD c.nd cd, rv s0 A0 n0 c0 B0 m0 d0, .int .i64 n] W fun e w' => AnsV errM m2 x3 ct e w' ∧ Below W.heap.size W w') := fun W hb => (First_any (HI.out W hb) HS.out.chS (HRR.out W hb) HR1.out.1 HR1.out.2 hdt).mono fun e w' h => ⟨by rw [hm2, hx3, hct]; exact h.1.out, h.2⟩
        have K8 : Hid (∀ W, Below w.heap.size w W → Calls Tryz.prog 17 #[cv c.st c.sr AM c.nm cm AD c.nd cd, rv s0 A0 n0 c0 B0 m0 d0, .int .i64 n] W fun e w' => AnsV intV m1 x1 ct e w' ∧ Below W.heap.size W w') := fun W hb => (rafter_any (HI.out W hb) HS.out.chS (HRR.out W hb) HR1.out.1 HR1.out.2 hdf.st).mono fun e w' h => ⟨by rw [hm1, hx1, hct]; exact h.1.out, h.2⟩
        have K9 : Hid (∀ W, Below w.heap.size w W → Calls Tryz.prog 18 #[cv c.st c.sr AM c.nm cm AD c.nd cd, rv s0 A0 n0 c0 B0 m0 d0, .int .i64 n] W fun e w' => AnsV intV m2 x2 ct e w' ∧ Below W.heap.size W w') := fun W hb => (rdowns_any (HI.out W hb) HS.out.chS (HRR.out W hb) HR1.out.1 HR1.out.2 hdf).mono fun e w' h => ⟨by rw [hm2, hx2, hct]; exact h.1.out, h.2⟩
        have K10 : Hid (∀ W, Below w.heap.size w W → Calls Tryz.prog 19 #[cv c.st c.sr AM c.nm cm AD c.nd cd, rv s0 A0 n0 c0 B0 m0 d0, .int .i64 n] W fun e w' => AnsV intV m2 x3 ct e w' ∧ Below W.heap.size W w') := fun W hb => (rfirst_any (HI.out W hb) HS.out (HRR.out W hb) HOK.out HR1.out.1 HR1.out.2 (by omega)).mono fun e w' h => ⟨by rw [hm2, hx3, hct]; exact h.1, h.2⟩
        have HX1 : Hid (∀ k, k < m1 → Sz 400 (x1 k)) := fun k hk => by
          rw [hm1] at hk
          obtain ⟨h0, h1⟩ := outN_lt hk
          rw [hx1]
          exact (Chn.runs_sz hdf h0).1 k h1
        have HX2 : Hid (∀ k, k < m2 → Sz 400 (x2 k)) := fun k hk => by
          rw [hm2] at hk
          obtain ⟨h0, h1⟩ := outN_lt hk
          rw [hx2]
          exact (Chn.runs_sz hdf h0).2 k h1
        have HX3 : Hid (∀ k, k < m2 → Sz 400 (x3 k)) := fun k hk => by
          rw [hm2] at hk
          obtain ⟨h0, h1⟩ := outN_lt hk
          rw [hx3]
          exact (Chn.runs_sz hdt h0).2 k h1
        have hmm := outN_300 HS.out (r := r) hin
        have hm1' : m1 ≤ 300 := by rw [hm1]; exact hmm.1
        have hm2' : m2 ≤ 300 := by rw [hm2]; exact hmm.2
        have hg : (decide (n > 6) = false ∧ decide (6 < n) = false) ∨ (decide (n > 6) = true ∧ decide (6 < n) = true ∧ decide (n ≤ 48) = false) := by
          by_cases h6 : 6 < n
          · exact .inr ⟨by simpa using h6, by simpa using h6, by simp; omega⟩
          · exact .inl ⟨by simpa using h6, by simpa using h6⟩
        clear hdf hdt hm1 hx1 hm2 hx2 hx3 hct hmm HF HR1 HS HSm HOK HI KF KR hin
        rcases hg with ⟨hg1, hg2⟩ | ⟨hg1, hg2, hg3⟩
        all_goals
          (go_wp2_with fail; (with_reducible refine (awake_any _).mono ?_); rintro e w4 ⟨rfl, hb4⟩; have hb4z := Below.size hb4; (try simp only [World.size_alloc, World.size_setCell, World.size_drew, size_drewN'] at hb4z); have hb4c0 := fun o => below_at hb4 (w.heap.size) o (by first | omega | (simp only [World.size_alloc, World.size_setCell, World.size_drew, size_drewN']; omega)); have hb4f0 := fun o => below_fr hb4 (w.heap.size) o (by first | omega | (simp only [World.size_alloc, World.size_setCell, World.size_drew, size_drewN']; omega)); have hb4c1 := fun o => below_at hb4 (w.heap.size + 1) o (by first | omega | (simp only [World.size_alloc, World.size_setCell, World.size_drew, size_drewN']; omega)); have hb4f1 := fun o => below_fr hb4 (w.heap.size + 1) o (by first | omega | (simp only [World.size_alloc, World.size_setCell, World.size_drew, size_drewN']; omega)))
          have hB4 : Below w.heap.size w w4 := hB2.trans (hb4.mono hB2.size)
          have hz4 := hB4.size
          (go_wp2_with fail; (with_reducible refine (K5.out _ hB4).mono ?_); rintro e w5 ⟨⟨A5, c5, rfl, r5⟩, hb5⟩; have hb5z := Below.size hb5; (try simp only [World.size_alloc, World.size_setCell, World.size_drew, size_drewN'] at hb5z); have hb5c0 := fun o => below_at hb5 (w.heap.size) o (by first | omega | (simp only [World.size_alloc, World.size_setCell, World.size_drew, size_drewN']; omega)); have hb5f0 := fun o => below_fr hb5 (w.heap.size) o (by first | omega | (simp only [World.size_alloc, World.size_setCell, World.size_drew, size_drewN']; omega)); have hb5c1 := fun o => below_at hb5 (w.heap.size + 1) o (by first | omega | (simp only [World.size_alloc, World.size_setCell, World.size_drew, size_drewN']; omega)); have hb5f1 := fun o => below_fr hb5 (w.heap.size + 1) o (by first | omega | (simp only [World.size_alloc, World.size_setCell, World.size_drew, size_drewN']; omega)))
          have hB5 : Below w.heap.size w w5 := hB4.trans (hb5.mono hB4.size)
          (go_wp2_with fail; (with_reducible refine (K6.out _ hB5).mono ?_); rintro e w6 ⟨⟨A6, c6, rfl, r6⟩, hb6⟩; have hb6z := Below.size hb6; (try simp only [World.size_alloc, World.size_setCell, World.size_drew, size_drewN'] at hb6z); have hb6c0 := fun o => below_at hb6 (w.heap.size) o (by first | omega | (simp only [World.size_alloc, World.size_setCell, World.size_drew, size_drewN']; omega)); have hb6f0 := fun o => below_fr hb6 (w.heap.size) o (by first | omega | (simp only [World.size_alloc, World.size_setCell, World.size_drew, size_drewN']; omega)); have hb6c1 := fun o => below_at hb6 (w.heap.size + 1) o (by first | omega | (simp only [World.size_alloc, World.size_setCell, World.size_drew, size_drewN']; omega)); have hb6f1 := fun o => below_fr hb6 (w.heap.size + 1) o (by first | omega | (simp only [World.size_alloc, World.size_setCell, World.size_drew, size_drewN']; omega)))
          have hB6 : Below w.heap.size w w6 := hB5.trans (hb6.mono hB5.size)
          (go_wp2_with fail; (with_reducible refine (K7.out _ hB6).mono ?_); rintro e w7 ⟨⟨A7, c7, rfl, r7⟩, hb7⟩; have hb7z := Below.size hb7; (try simp only [World.size_alloc, World.size_setCell, World.size_drew, size_drewN'] at hb7z); have hb7c0 := fun o => below_at hb7 (w.heap.size) o (by first | omega | (simp only [World.size_alloc, World.size_setCell, World.size_drew, size_drewN']; omega)); have hb7f0 := fun o => below_fr hb7 (w.heap.size) o (by first | omega | (simp only [World.size_alloc, World.size_setCell, World.size_drew, size_drewN']; omega)); have hb7c1 := fun o => below_at hb7 (w.heap.size + 1) o (by first | omega | (simp only [World.size_alloc, World.size_setCell, World.size_drew, size_drewN']; omega)); have hb7f1 := fun o => below_fr hb7 (w.heap.size + 1) o (by first | omega | (simp only [World.size_alloc, World.size_setCell, World.size_drew, size_drewN']; omega)))
          have hB7 : Below w.heap.size w w7 := hB6.trans (hb7.mono hB6.size)
          (go_wp2_with fail; (with_reducible refine (K8.out _ hB7).mono ?_); rintro e w8 ⟨⟨A8, c8, rfl, r8⟩, hb8⟩; have hb8z := Below.size hb8; (try simp only [World.size_alloc, World.size_setCell, World.size_drew, size_drewN'] at hb8z); have hb8c0 := fun o => below_at hb8 (w.heap.size) o (by first | omega | (simp only [World.size_alloc, World.size_setCell, World.size_drew, size_drewN']; omega)); have hb8f0 := fun o => below_fr hb8 (w.heap.size) o (by first | omega | (simp only [World.size_alloc, World.size_setCell, World.size_drew, size_drewN']; omega)); have hb8c1 := fun o => below_at hb8 (w.heap.size + 1) o (by first | omega | (simp only [World.size_alloc, World.size_setCell, World.size_drew, size_drewN']; omega)); have hb8f1 := fun o => below_fr hb8 (w.heap.size + 1) o (by first | omega | (simp only [World.size_alloc, World.size_setCell, World.size_drew, size_drewN']; omega)))
          have hB8 : Below w.heap.size w w8 := hB7.trans (hb8.mono hB7.size)
          (go_wp2_with fail; (with_reducible refine (K9.out _ hB8).mono ?_); rintro e w9 ⟨⟨A9, c9, rfl, r9⟩, hb9⟩; have hb9z := Below.size hb9; (try simp only [World.size_alloc, World.size_setCell, World.size_drew, size_drewN'] at hb9z); have hb9c0 := fun o => below_at hb9 (w.heap.size) o (by first | omega | (simp only [World.size_alloc, World.size_setCell, World.size_drew, size_drewN']; omega)); have hb9f0 := fun o => below_fr hb9 (w.heap.size) o (by first | omega | (simp only [World.size_alloc, World.size_setCell, World.size_drew, size_drewN']; omega)); have hb9c1 := fun o => below_at hb9 (w.heap.size + 1) o (by first | omega | (simp only [World.size_alloc, World.size_setCell, World.size_drew, size_drewN']; omega)); have hb9f1 := fun o => below_fr hb9 (w.heap.size + 1) o (by first | omega | (simp only [World.size_alloc, World.size_setCell, World.size_drew, size_drewN']; omega)))
          have hB9 : Below w.heap.size w w9 := hB8.trans (hb9.mono hB8.size)
          (go_wp2_with fail; (with_reducible refine (K10.out _ hB9).mono ?_); rintro e w10 ⟨⟨A10, c10, rfl, r10⟩, hb10⟩; have hb10z := Below.size hb10; (try simp only [World.size_alloc, World.size_setCell, World.size_drew, size_drewN'] at hb10z))
          have hB10 : Below w.heap.size w w10 := hB9.trans (hb10.mono hB9.size)
          have h910 : Below w9.heap.size w9 w10 := hb10
          have h810 : Below w8.heap.size w8 w10 := hb9.trans (h910.mono hb9.size)
          have h710 : Below w7.heap.size w7 w10 := hb8.trans (h810.mono hb8.size)
          have h610 : Below w6.heap.size w6 w10 := hb7.trans (h710.mono hb7.size)
          have h510 : Below w5.heap.size w5 w10 := hb6.trans (h610.mono hb6.size)
          have K11 := Lib.hid (fun W (hb : Below w10.heap.size w10 W) => rats_same (c := c5) (d := c8) (r5.below (h510.trans (hb.mono h510.size))) (r8.below (h810.trans (hb.mono h810.size))) (by omega) (short_can HX1.out))
          have K12 := Lib.hid (fun W (hb : Below w10.heap.size w10 W) => rats_same (c := c6) (d := c9) (r6.below (h610.trans (hb.mono h610.size))) (r9.below (h910.trans (hb.mono h910.size))) (by omega) (short_can HX2.out))
          have K13 := Lib.hid (fun W (hb : Below w10.heap.size w10 W) => rats_same (c := c7) (d := c10) (r7.below (h710.trans (hb.mono h710.size))) (r10.below hb) (by omega) (short_can HX3.out))
          have ect : (ct == ct) = true := by simp
          clear r5 r6 r7 r8 r9 r10 h510 h610 h710 h810 h910 K5 K6 K7 K8 K9 K10 HX1 HX2 HX3
          go_wp2_with fail
          (with_reducible refine (bnum_e _ _).mono ?_)
          rintro e _ ⟨rfl, rfl⟩
          (go_wp2_with fail; (with_reducible refine (K11.out _ (Below.refl _ _)).mono ?_); rintro e w11 ⟨rfl, hb11⟩; have hb11z := Below.size hb11; (try simp only [World.size_alloc, World.size_setCell, World.size_drew, size_drewN'] at hb11z))
          go_wp2_with fail
          (with_reducible refine (bnum_e _ _).mono ?_)
          rintro e _ ⟨rfl, rfl⟩
          (go_wp2_with fail; (with_reducible refine (K12.out _ hb11).mono ?_); rintro e w12 ⟨rfl, hb12⟩; have hb12z := Below.size hb12; (try simp only [World.size_alloc, World.size_setCell, World.size_drew, size_drewN'] at hb12z))
          go_wp2_with fail
          (with_reducible refine (bnum_e _ _).mono ?_)
          rintro e _ ⟨rfl, rfl⟩
          (go_wp2_with fail; (with_reducible refine (K13.out _ (hb11.trans (hb12.mono hb11.size))).mono ?_); rintro e w13 ⟨rfl, hb13⟩; have hb13z := Below.size hb13; (try simp only [World.size_alloc, World.size_setCell, World.size_drew, size_drewN'] at hb13z))
          go_wp2
          go_ret
          exact ⟨rfl, hB10.trans (((hb11.trans (hb12.mono hb11.size)).trans (hb13.mono (by have := hb11.size; have := hb12.size; omega))).mono hB10.size)⟩
      · have hg1 : decide (n > 6) = true := by simp; omega
        have hg2 : decide (6 < n) = true := hg1
        have hg3 : decide (n ≤ 48) = true := by simp; omega
        clear hin
        (go_wp2_with fail; (with_reducible refine (awake_any _).mono ?_); rintro e w3 ⟨rfl, hb3⟩; have hb3z := Below.size hb3; (try simp only [World.size_alloc, World.size_setCell, World.size_drew, size_drewN'] at hb3z))
        go_wp2
        go_ret
        exact ⟨rfl, hB2.trans (hb3.mono hB2.size)⟩
end Go.Proofs.YtglpknhcneggeaaGreatDoor
