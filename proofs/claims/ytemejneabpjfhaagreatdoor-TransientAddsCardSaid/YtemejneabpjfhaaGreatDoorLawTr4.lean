/- Contracts of functions and lemmas, used by the proofs of the given statements. No condition beyond those that each lemma names. -/
import Derived.Test.YtemejneabpjfhaaGreatDoorLawTr3
namespace Go.Proofs.YtemejneabpjfhaaGreatDoor
open Go.RowKit
set_option linter.unusedSimpArgs false
set_option linter.unusedVariables false
set_option maxRecDepth 20000
attribute [local irreducible] nv wp win plainB validR valR canR mvE chkM codeC exK maxF dsum
/-! ## TransientAdds -/
theorem Chn.step_adds {c : Chn} {r : Rat} {n : Nat} {R U : Nat → Rw} (ok : c.Ok) (hn : n = c.nd) (s : Nat) (hs : s < n) : c.stepQ false r (vecQ n (can fun k => valR (R k) + valR (U k))) s = c.stepQ false r (vecQ n R) s + c.stepQ false r (vecQ n U) s := by
  subst hn
  have h1 : ∀ s, s < c.nd → vecQ c.nd (can fun k => valR (R k) + valR (U k)) s = vecQ c.nd R s + vecQ c.nd U s := fun s hs => by
    rw [vecQ_can hs]
    unfold vecQ
    rw [if_pos hs, if_pos hs]
  rw [Chn.step_congr ok h1 s hs]
  exact step_add s
theorem sum_fz {n : Nat} {R U : Nat → Rw} (hR : ∀ k, k < n → okR (R k) ∧ (R k).2.1.length ≤ 4 ∧ (R k).2.2.length ≤ 4) (hU : ∀ k, k < n → okR (U k) ∧ (U k).2.1.length ≤ 4 ∧ (U k).2.2.length ≤ 4) : FzL (n * 9 + 9 + 1) (vecQ n (can fun k => valR (R k) + valR (U k))) :=
  FzL.of_sz (fun s hs => by
    rw [vecQ_can hs]
    exact (Sz_valR (hR s hs).1 (by omega) (hR s hs).2.1 (hR s hs).2.2).add (Sz_valR (hU s hs).1 (by omega) (hU s hs).2.1 (hU s hs).2.2)) (fun s hs => by unfold vecQ; rw [if_neg (by omega)]) (by omega)
set_option maxHeartbeats 16000000 in
theorem transientAdds_law {w : World} {AM AD AV AU : Option Addr} {cm cd n ca m cu : Nat} {c : Chn} {R U : Nat → Rw} (h : ChI w w.heap.size AM cm AD cd c) (hV : RowA w w.heap.size AV n R) (hU : RowA w w.heap.size AU m U) :
    Calls Tryz.prog 8 #[cv c.st c.sr AM c.nm cm AD c.nd cd, .slice AV n ca, .slice AU m cu] w fun e w' => e = .returned (.bool true) ∧ Below w.heap.size w w' := by
  have K0 : Hid (∀ W : World, Calls Tryz.prog 22 #[.int .i64 1024] W fun e w' => RetQ W.heap.size ((1024 : Nat) : Rat) e w' ∧ Below W.heap.size W w') := fun W => ofQ 1024 W (by omega)
  have KB := Lib.hid (fun W (hb : Below w.heap.size w W) => brief_any (c := ca) (hV.below hb))
  have KC := Lib.hid (fun W (hb : Below w.heap.size w W) => brief_any (c := cu) (hU.below hb))
  have HI := Lib.hid (fun W (hb : Below w.heap.size w W) => h.below hb)
  have HVV := Lib.hid hV
  have HUU := Lib.hid hU
  have HSm := Lib.hid (fun (hf : FewP c) => hf.small h)
  have hbA : Below w.heap.size w (w.alloc (.cells #[.int .i64 c.st, .int .i64 c.sr, .slice AM c.nm cm, .slice AD c.nd cd] 25)) := (Below.refl _ _).alloc (Nat.le_refl _) _
  have HBA := Lib.hid hbA
  clear h hV hU hbA
  go_enter Tryz.func8, Tryz.ntmps8
  (go_wp2_with fail; (with_reducible refine (K0.out _).mono ?_); rintro e w1 ⟨⟨v1, rfl, own1⟩, hb1⟩; have hb1z := Below.size hb1; (try simp only [World.size_alloc, World.size_setCell, World.size_drew, size_drewN'] at hb1z); have hb1c0 := fun o => below_at hb1 (w.heap.size) o (by first | omega | (simp only [World.size_alloc, World.size_setCell, World.size_drew, size_drewN']; omega)); have hb1f0 := fun o => below_fr hb1 (w.heap.size) o (by first | omega | (simp only [World.size_alloc, World.size_setCell, World.size_drew, size_drewN']; omega)))
  have hB1 : Below w.heap.size w w1 := HBA.out.trans (hb1.mono (by simp))
  have hw1 : w.heap.size < w1.heap.size := by have := hb1.size; simp at this; omega
  have HRR : Hid (∀ W, Below w1.heap.size w1 W → RdS W W.heap.size v1 (canR ((1024 : Nat) : Rat))) := fun W hb => ((own1.rs (b0 := 0)).kp (Kp.of_below hb)).base (Nat.zero_le _)
  obtain ⟨s0, A0, n0, c0, B0, m0, d0, rfl⟩ := own1.form
  clear own1
  obtain ⟨r, hr⟩ : ∃ r, r = canR ((1024 : Nat) : Rat) := ⟨_, rfl⟩
  have HOK : Hid (okR r) := by rw [hr]; exact canR_ok _
  rw [← hr] at HRR
  clear hr
  have KV := Lib.hid (fun W (hb : Below w.heap.size w W) (hb' : Below w1.heap.size w1 W) => valid_law (HI.out W hb) (HRR.out W hb'))
  (have o1c := fun o i => below_at ((Below.refl w1.heap.size w1).alloc (Nat.le_refl _) o) (w.heap.size) i (by omega)); (have o1f := fun o i => below_fr ((Below.refl w1.heap.size w1).alloc (Nat.le_refl _) o) (w.heap.size) i (by omega))
  have hbR : Below w1.heap.size w1 (w1.alloc (.cells #[.bool s0, .slice A0 n0 c0, .slice B0 m0 d0] 28)) := (Below.refl _ _).alloc (Nat.le_refl _) _
  have HBR := Lib.hid hbR
  clear hbR
  (go_wp2_with fail; (with_reducible refine (KV.out _ (hB1.trans (HBR.out.mono hB1.size)) HBR.out).mono ?_); rintro e w2 ⟨⟨bb, rfl, hbb⟩, hb2⟩; have hb2z := Below.size hb2; (try simp only [World.size_alloc, World.size_setCell, World.size_drew, size_drewN'] at hb2z); have hb2c0 := fun o => below_at hb2 (w.heap.size) o (by first | omega | (simp only [World.size_alloc, World.size_setCell, World.size_drew, size_drewN']; omega)); have hb2f0 := fun o => below_fr hb2 (w.heap.size) o (by first | omega | (simp only [World.size_alloc, World.size_setCell, World.size_drew, size_drewN']; omega)); have hb2c1 := fun o => below_at hb2 (w1.heap.size) o (by first | omega | (simp only [World.size_alloc, World.size_setCell, World.size_drew, size_drewN']; omega)); have hb2f1 := fun o => below_fr hb2 (w1.heap.size) o (by first | omega | (simp only [World.size_alloc, World.size_setCell, World.size_drew, size_drewN']; omega)))
  have hb12 : Below w1.heap.size w1 w2 := HBR.out.trans (hb2.mono (by simp))
  have hB2 : Below w.heap.size w w2 := hB1.trans (hb12.mono hB1.size)
  have hw2 : w1.heap.size < w2.heap.size := by have := hb2.size; simp at this; omega
  cases bb with
  | false =>
    clear hbb
    (go_wp2_with fail; (with_reducible refine (awake_any _).mono ?_); rintro e w3 ⟨rfl, hb3⟩; have hb3z := Below.size hb3; (try simp only [World.size_alloc, World.size_setCell, World.size_drew, size_drewN'] at hb3z))
    go_wp2
    go_ret
    exact ⟨rfl, hB2.trans (hb3.mono hB2.size)⟩
  | true =>
    have HP := Lib.hid (hbb rfl)
    clear hbb
    (go_wp2_with fail; (with_reducible refine (KB.out _ hB2).mono ?_); rintro e w3 ⟨⟨b2, rfl, hb2'⟩, hb3⟩; have hb3z := Below.size hb3; (try simp only [World.size_alloc, World.size_setCell, World.size_drew, size_drewN'] at hb3z); have hb3c0 := fun o => below_at hb3 (w.heap.size) o (by first | omega | (simp only [World.size_alloc, World.size_setCell, World.size_drew, size_drewN']; omega)); have hb3f0 := fun o => below_fr hb3 (w.heap.size) o (by first | omega | (simp only [World.size_alloc, World.size_setCell, World.size_drew, size_drewN']; omega)); have hb3c1 := fun o => below_at hb3 (w1.heap.size) o (by first | omega | (simp only [World.size_alloc, World.size_setCell, World.size_drew, size_drewN']; omega)); have hb3f1 := fun o => below_fr hb3 (w1.heap.size) o (by first | omega | (simp only [World.size_alloc, World.size_setCell, World.size_drew, size_drewN']; omega)))
    have hB3 : Below w.heap.size w w3 := hB2.trans (hb3.mono hB2.size)
    cases b2 with
    | false =>
      clear hb2'
      (go_wp2_with fail; (with_reducible refine (awake_any _).mono ?_); rintro e w4 ⟨rfl, hb4⟩; have hb4z := Below.size hb4; (try simp only [World.size_alloc, World.size_setCell, World.size_drew, size_drewN'] at hb4z))
      go_wp2
      go_ret
      exact ⟨rfl, hB3.trans (hb4.mono hB3.size)⟩
    | true =>
      have HVB := Lib.hid (hb2' rfl)
      clear hb2'
      (go_wp2_with fail; (with_reducible refine (KC.out _ hB3).mono ?_); rintro e w4 ⟨⟨b3, rfl, hb3'⟩, hb4⟩; have hb4z := Below.size hb4; (try simp only [World.size_alloc, World.size_setCell, World.size_drew, size_drewN'] at hb4z); have hb4c0 := fun o => below_at hb4 (w.heap.size) o (by first | omega | (simp only [World.size_alloc, World.size_setCell, World.size_drew, size_drewN']; omega)); have hb4f0 := fun o => below_fr hb4 (w.heap.size) o (by first | omega | (simp only [World.size_alloc, World.size_setCell, World.size_drew, size_drewN']; omega)); have hb4c1 := fun o => below_at hb4 (w1.heap.size) o (by first | omega | (simp only [World.size_alloc, World.size_setCell, World.size_drew, size_drewN']; omega)); have hb4f1 := fun o => below_fr hb4 (w1.heap.size) o (by first | omega | (simp only [World.size_alloc, World.size_setCell, World.size_drew, size_drewN']; omega)))
      have hB4 : Below w.heap.size w w4 := hB3.trans (hb4.mono hB3.size)
      cases b3 with
      | false =>
        clear hb3'
        (go_wp2_with fail; (with_reducible refine (awake_any _).mono ?_); rintro e w5 ⟨rfl, hb5⟩; have hb5z := Below.size hb5; (try simp only [World.size_alloc, World.size_setCell, World.size_drew, size_drewN'] at hb5z))
        go_wp2
        go_ret
        exact ⟨rfl, hB4.trans (hb5.mono hB4.size)⟩
      | true =>
        have HUB := Lib.hid (hb3' rfl)
        clear hb3'
        have ok := HP.out.okc.1
        have hst := ok.st
        by_cases hn : n = c.nd
        · have e1 : ((n : Int) != c.st) = false := by rw [hst, hn]; simp
          by_cases hm : m = c.nd
          · have e2 : ((m : Int) != c.st) = false := by rw [hst, hm]; simp
            obtain rfl : m = n := by omega
            have HN := Lib.hid hn
            clear hn hst ok hm e2
            have hn9 : m ≤ 300 := HVB.out.1
            (go_wp2_with fail; (with_reducible refine (awake_any _).mono ?_); rintro e w5 ⟨rfl, hb5⟩; have hb5z := Below.size hb5; (try simp only [World.size_alloc, World.size_setCell, World.size_drew, size_drewN'] at hb5z); have hb5c0 := fun o => below_at hb5 (w.heap.size) o (by first | omega | (simp only [World.size_alloc, World.size_setCell, World.size_drew, size_drewN']; omega)); have hb5f0 := fun o => below_fr hb5 (w.heap.size) o (by first | omega | (simp only [World.size_alloc, World.size_setCell, World.size_drew, size_drewN']; omega)); have hb5c1 := fun o => below_at hb5 (w1.heap.size) o (by first | omega | (simp only [World.size_alloc, World.size_setCell, World.size_drew, size_drewN']; omega)); have hb5f1 := fun o => below_fr hb5 (w1.heap.size) o (by first | omega | (simp only [World.size_alloc, World.size_setCell, World.size_drew, size_drewN']; omega)))
            have hB5 : Below w.heap.size w w5 := hB4.trans (hb5.mono hB4.size)
            have hw5 : w1.heap.size < w5.heap.size := by have := hb3.size; have := hb4.size; have := hb5.size; omega
            have hb15 : Below w1.heap.size w1 w5 := ((hb12.trans (hb3.mono hb12.size)).trans (hb4.mono (by have := hb3.size; omega))).trans (hb5.mono (by have := hb3.size; have := hb4.size; omega))
            have y0 : w5.cell? ⟨w.heap.size, 0, none⟩ = some (.int .i64 c.st) := by rw [hb5c0, hb4c0, hb3c0, hb2c0, o1c, hb1c0]; simp
            have y1 : w5.cell? ⟨w.heap.size, 1, none⟩ = some (.int .i64 c.sr) := by rw [hb5c0, hb4c0, hb3c0, hb2c0, o1c, hb1c0]; simp
            have y2 : w5.cell? ⟨w.heap.size, 2, none⟩ = some (.slice AM c.nm cm) := by rw [hb5c0, hb4c0, hb3c0, hb2c0, o1c, hb1c0]; simp
            have y3 : w5.cell? ⟨w.heap.size, 3, none⟩ = some (.slice AD c.nd cd) := by rw [hb5c0, hb4c0, hb3c0, hb2c0, o1c, hb1c0]; simp
            have y4 : w5.cell? ⟨w1.heap.size, 0, none⟩ = some (.bool s0) := by rw [hb5c1, hb4c1, hb3c1, hb2c1]; simp
            have y5 : w5.cell? ⟨w1.heap.size, 1, none⟩ = some (.slice A0 n0 c0) := by rw [hb5c1, hb4c1, hb3c1, hb2c1]; simp
            have y6 : w5.cell? ⟨w1.heap.size, 2, none⟩ = some (.slice B0 m0 d0) := by rw [hb5c1, hb4c1, hb3c1, hb2c1]; simp
            have HB5 := Lib.hid hB5
            have HB15 := Lib.hid hb15
            clear hb1c0 hb2c0 hb2c1 hb3c0 hb3c1 hb4c0 hb4c1 hb5c0 hb5c1 hb1f0 hb2f0 hb2f1 hb3f0 hb3f1 hb4f0 hb4f1 hb5f0 hb5f1 o1c o1f
            clear hB1 hB2 hB3 hB4 hB5 hb12 hb15 hb1 hb2 hb3 hb4 hb5 HBA HBR
            have hz5 := HB5.out.size
            go_wp2
            go_loopw [53, 8] (fun i x wr => ∃ (k : Nat) (A : Option Addr) (cA : Nat), k ≤ m ∧ i = .int .i64 (k : Int) ∧ x = .slice A k cA ∧ OwR wr w5.heap.size A cA k (can fun s => valR (R s) + valR (U s)) ∧ (∀ j, j < k → validR (R j) = true ∧ validR (U j) = true) ∧ Below w5.heap.size w5 wr) (fun i _ _ => m - (intOf i).toNat)
            case atStart => exact ⟨0, none, 0, Nat.zero_le _, rfl, rfl, OwR.nil_ _ _ _, fun j hj => by omega, Below.refl _ _⟩
            case round =>
              obtain ⟨k, A, cA, hk, rfl, rfl, hown, hv, hb⟩ := hrel
              have HV1 := Lib.hid hv
              have HO := Lib.hid hown
              clear hv hown
              have hbz := hb.size
              have hbw : Below w.heap.size w wr := HB5.out.trans (hb.mono (by omega))
              by_cases hlt : k < m
              · obtain ⟨bx, ox, s1, A1, n1, c1, B1, m1, d1, rfl, hbx, f0, f1, f2, r1⟩ := HVV.out.at_ hlt
                obtain ⟨bu, ou, s2, A2, n2, c2, B2, m2, d2, rfl, hbu, g0, g1, g2, r2⟩ := HUU.out.at_ hlt
                obtain ⟨l1, l2⟩ := HVB.out.2 k hlt
                obtain ⟨l3, l4⟩ := HUB.out.2 k hlt
                have x0 := (hbw.cell (lt_of_cell f0)).trans f0
                have x1 := (hbw.cell (lt_of_cell f1)).trans f1
                have x2 := (hbw.cell (lt_of_cell f2)).trans f2
                have x3 := (hbw.cell (lt_of_cell g0)).trans g0
                have x4 := (hbw.cell (lt_of_cell g1)).trans g1
                have x5 := (hbw.cell (lt_of_cell g2)).trans g2
                have q1 := (r1.kp (Kp.of_below hbw)).rdq l1 l2
                have q2 := (r2.kp (Kp.of_below hbw)).rdq l3 l4
                have KVl := Lib.hid (fun W (hb' : Below wr.heap.size wr W) => rvalidS (r1.kp (Kp.of_below (hbw.trans (hb'.mono hbw.size)))) (by omega) (by omega))
                have KUl := Lib.hid (fun W (hb' : Below wr.heap.size wr W) => rvalidS (r2.kp (Kp.of_below (hbw.trans (hb'.mono hbw.size)))) (by omega) (by omega))
                have KA := Lib.hid (fun W (hb : Below wr.heap.size wr W) => addQ (q1.below hb) (q2.below hb) (by omega) (by omega))
                have hk0 : (0 : Int) ≤ (k : Int) := by omega
                have hki : (k : Int) < (m : Int) := by omega
                have HB := Lib.hid hb
                have HBW := Lib.hid hbw
                have hbwz := hbw.size
                clear f0 f1 f2 r1 l1 l2 g0 g1 g2 r2 l3 l4 q1 q2 y0 y1 y2 y3 y4 y5 y6 hb hbw
                cases hvv : validR (R k)
                · rw [hvv] at KVl
                  clear hvv
                  (go_wp2_with fail; (with_reducible refine (KVl.out _ (by (skip); repeat' (first | (with_reducible exact Below.refl _ _) | (with_reducible assumption) | (with_reducible refine Below.alloc ?_ ?_ _) | (with_reducible refine Below.drew ?_) | (with_reducible refine below_drewN ?_ _) | (with_reducible refine Below.setCell ?_ ?_ _) | (with_reducible refine Below.trans ?_ (Below.mono (by with_reducible assumption) ?_)) | omega | (simp only [World.size_alloc, World.size_setCell, World.size_drew, size_drewN']; omega) | go_size))).mono ?_); rintro e w6 ⟨rfl, hb6⟩; have hb6z := Below.size hb6; (try simp only [World.size_alloc, World.size_setCell, World.size_drew, size_drewN'] at hb6z))
                  go_wp2
                  go_ret
                  exact ⟨rfl, HBW.out.trans (Below.mono ((by have z0 := Below.size hb6; (try simp only [World.size_alloc, World.size_setCell, World.size_drew, size_drewN'] at z0 ⊢; skip); repeat' (first | (with_reducible exact Below.refl _ _) | (with_reducible assumption) | (with_reducible refine Below.alloc ?_ ?_ _) | (with_reducible refine Below.drew ?_) | (with_reducible refine below_drewN ?_ _) | (with_reducible refine Below.setCell ?_ ?_ _) | (with_reducible refine Below.trans ?_ (Below.mono (by with_reducible assumption) ?_)) | omega | (simp only [World.size_alloc, World.size_setCell, World.size_drew, size_drewN']; omega) | go_size)) : Below wr.heap.size wr w6) hbwz)⟩
                · have HVk := Lib.hid hvv
                  rw [hvv] at KVl
                  clear hvv
                  (go_wp2_with fail; (with_reducible refine (KVl.out _ (by (skip); repeat' (first | (with_reducible exact Below.refl _ _) | (with_reducible assumption) | (with_reducible refine Below.alloc ?_ ?_ _) | (with_reducible refine Below.drew ?_) | (with_reducible refine below_drewN ?_ _) | (with_reducible refine Below.setCell ?_ ?_ _) | (with_reducible refine Below.trans ?_ (Below.mono (by with_reducible assumption) ?_)) | omega | (simp only [World.size_alloc, World.size_setCell, World.size_drew, size_drewN']; omega) | go_size))).mono ?_); rintro e w6 ⟨rfl, hb6⟩; have hb6z := Below.size hb6; (try simp only [World.size_alloc, World.size_setCell, World.size_drew, size_drewN'] at hb6z))
                  have x0 := (hb6.cell (lt_of_cell x0)).trans x0
                  have x1 := (hb6.cell (lt_of_cell x1)).trans x1
                  have x2 := (hb6.cell (lt_of_cell x2)).trans x2
                  have x3 := (hb6.cell (lt_of_cell x3)).trans x3
                  have x4 := (hb6.cell (lt_of_cell x4)).trans x4
                  have x5 := (hb6.cell (lt_of_cell x5)).trans x5
                  cases hvu : validR (U k)
                  · rw [hvu] at KUl
                    clear hvu
                    (go_wp2_with fail; (with_reducible refine (KUl.out _ hb6).mono ?_); rintro e w7 ⟨rfl, hb7⟩; have hb7z := Below.size hb7; (try simp only [World.size_alloc, World.size_setCell, World.size_drew, size_drewN'] at hb7z))
                    go_wp2
                    go_ret
                    exact ⟨rfl, HBW.out.trans (Below.mono (hb6.trans (hb7.mono hb6.size)) hbwz)⟩
                  · have HUk := Lib.hid hvu
                    rw [hvu] at KUl
                    clear hvu
                    (go_wp2_with fail; (with_reducible refine (KUl.out _ hb6).mono ?_); rintro e w7 ⟨rfl, hb7⟩; have hb7z := Below.size hb7; (try simp only [World.size_alloc, World.size_setCell, World.size_drew, size_drewN'] at hb7z))
                    have h79 : Below wr.heap.size wr w7 := hb6.trans (hb7.mono hb6.size)
                    have hz7 := h79.size
                    have x0 := (hb7.cell (lt_of_cell x0)).trans x0
                    have x1 := (hb7.cell (lt_of_cell x1)).trans x1
                    have x2 := (hb7.cell (lt_of_cell x2)).trans x2
                    have x3 := (hb7.cell (lt_of_cell x3)).trans x3
                    have x4 := (hb7.cell (lt_of_cell x4)).trans x4
                    have x5 := (hb7.cell (lt_of_cell x5)).trans x5
                    have hbx7 : bx < w7.heap.size := by omega
                    have hbu7 : bu < w7.heap.size := by omega
                    have HNX : Hid (some bx ≠ (Value.slice A k cA).ownBlock) := fun e => by have := own_of HO.out _ e.symm; omega
                    have HNU : Hid (some bu ≠ (Value.slice A k cA).ownBlock) := fun e => by have := own_of HO.out _ e.symm; omega
                    have KA7 := Lib.hid (fun W (hb : Below w7.heap.size w7 W) => KA.out W (h79.trans (hb.mono hz7)))
                    have HO7 := Lib.hid (HO.out.below h79)
                    have H79 := Lib.hid h79
                    clear hb6 hb7 h79 KA KVl KUl
                    go_wp2
                    go_region_held3 (fun W => W.cell? ⟨bx, ox + k * 3, none⟩ = some (.bool s1) ∧ W.cell? ⟨bx, ox + k * 3 + 1, none⟩ = some (.slice A1 n1 c1) ∧ W.cell? ⟨bx, ox + k * 3 + 2, none⟩ = some (.slice B1 m1 d1) ∧ W.cell? ⟨bu, ou + k * 3, none⟩ = some (.bool s2) ∧ W.cell? ⟨bu, ou + k * 3 + 1, none⟩ = some (.slice A2 n2 c2) ∧ W.cell? ⟨bu, ou + k * 3 + 2, none⟩ = some (.slice B2 m2 d2)) (go_keep)
                      (first | ((go_at_call 34; (with_reducible refine (KA7.out _ (by (skip); repeat' (first | (with_reducible exact Below.refl _ _) | (with_reducible assumption) | (with_reducible refine Below.alloc ?_ ?_ _) | (with_reducible refine Below.drew ?_) | (with_reducible refine below_drewN ?_ _) | (with_reducible refine Below.setCell ?_ ?_ _) | (with_reducible refine Below.trans ?_ (Below.mono (by with_reducible assumption) ?_)) | omega | (simp only [World.size_alloc, World.size_setCell, World.size_drew, size_drewN']; omega) | go_size))).mono ?_); rintro e w8 ⟨⟨v8, rfl, own8⟩, hb8⟩; have hb8z := Below.size hb8; (try simp only [World.size_alloc, World.size_setCell, World.size_drew] at hb8z); have hb8c0 := fun o => below_at hb8 (bx) o (by first | omega | (simp only [World.size_alloc, World.size_setCell, World.size_drew]; omega)); have hb8f0 := fun o => below_fr hb8 (bx) o (by first | omega | (simp only [World.size_alloc, World.size_setCell, World.size_drew]; omega)); have hb8l0 : bx < (w8).heap.size := (by omega); have hb8c1 := fun o => below_at hb8 (bu) o (by first | omega | (simp only [World.size_alloc, World.size_setCell, World.size_drew]; omega)); have hb8f1 := fun o => below_fr hb8 (bu) o (by first | omega | (simp only [World.size_alloc, World.size_setCell, World.size_drew]; omega)); have hb8l1 : bu < (w8).heap.size := (by omega)); obtain ⟨s8, A8, n8, c8, B8, m8, d8, rfl⟩ := own8.form; (have omc := fun o i => below_at ((Below.refl w8.heap.size w8).alloc (Nat.le_refl _) o) (bx) i (by omega)); (have omf := fun o i => below_fr ((Below.refl w8.heap.size w8).alloc (Nat.le_refl _) o) (bx) i (by omega)); (have onc := fun o i => below_at ((Below.refl w8.heap.size w8).alloc (Nat.le_refl _) o) (bu) i (by omega)); (have onf := fun o i => below_fr ((Below.refl w8.heap.size w8).alloc (Nat.le_refl _) o) (bu) i (by omega))) | (refine step_appR (by rfl) (.tmp 70) (.tmp 80) (by rfl) w5.heap.size A cA k (can fun s => valR (R s) + valR (U s)) (by rfl) (by exact HO7.out.below (by have z0 := Below.size hb8; (try simp only [World.size_alloc, World.size_setCell, World.size_drew, size_drewN'] at z0 ⊢; skip); repeat' (first | (with_reducible exact Below.refl _ _) | (with_reducible assumption) | (with_reducible refine Below.alloc ?_ ?_ _) | (with_reducible refine Below.drew ?_) | (with_reducible refine below_drewN ?_ _) | (with_reducible refine Below.setCell ?_ ?_ _) | (with_reducible refine Below.trans ?_ (Below.mono (by with_reducible assumption) ?_)) | omega | (simp only [World.size_alloc, World.size_setCell, World.size_drew, size_drewN']; omega) | go_size))) w8.heap.size s8 A8 n8 c8 B8 m8 d8 (canR (valR (R k) + valR (U k))) (by rfl) (by simp) (by simp) (by simp) (by exact (own8.alloc _).rs) (by omega) (by simp; omega) ?_; intro g cap w9 hown9 hgrow9 hfr9; have hx9 := fun o => hgrow9.cell_far ⟨bx, o, none⟩ (by simp; omega) HNX.out; have hy9 := fun o => hgrow9.cell_far ⟨bu, o, none⟩ (by simp; omega) HNU.out) | fail)
                    all_goals
                      have hgw := grown_trans (grown_of_below (show Below w7.heap.size w7 _ from (by have z0 := Below.size hb8; (try simp only [World.size_alloc, World.size_setCell, World.size_drew, size_drewN'] at z0 ⊢; skip); repeat' (first | (with_reducible exact Below.refl _ _) | (with_reducible assumption) | (with_reducible refine Below.alloc ?_ ?_ _) | (with_reducible refine Below.drew ?_) | (with_reducible refine below_drewN ?_ _) | (with_reducible refine Below.setCell ?_ ?_ _) | (with_reducible refine Below.trans ?_ (Below.mono (by with_reducible assumption) ?_)) | omega | (simp only [World.size_alloc, World.size_setCell, World.size_drew, size_drewN']; omega) | go_size))) _) hgrow9
                      have h99 : Below w5.heap.size wr w9 := (H79.out.mono hbz).trans (below_of_row hgw (own_of HO7.out) (by omega))
                      rw [upd_can, upd_self (f := fun s => valR (R s) + valR (U s))] at hown9
                      have HO9 := Lib.hid hown9
                      have H99 := Lib.hid h99
                      clear hown9 hgrow9 hgw h99 hfr9
                      go_wp2
                      go_roundw
                      case rel =>
                        refine ⟨k + 1, _, cap, by omega, by go_num, rfl, HO9.out, fun j hj => ?_, HB.out.trans H99.out⟩
                        by_cases e : j = k
                        · rw [e]; exact ⟨HVk.out, HUk.out⟩
                        · exact HV1.out j (by omega)
                      case measure => simp [intOf]; omega
              · have hkm : k = m := by omega
                subst hkm
                have hall := allV_yes (fun j hj => (HV1.out j hj).1)
                have halu := allV_yes (fun j hj => (HV1.out j hj).2)
                have hS := HSm.out HP.out.few
                have okc := HP.out.okc
                have hnd9 := hS.nd okc.1
                have hk9 : k ≤ 9 := by have := HN.out; omega
                have hrs := Sz_valR HOK.out (by omega) HP.out.l1 HP.out.l2
                have hR : ∀ j, j < k → okR (R j) ∧ (R j).2.1.length ≤ 4 ∧ (R j).2.2.length ≤ 4 := fun j hj => ⟨HVV.out.okR' hj, HVB.out.2 j hj⟩
                have hU : ∀ j, j < k → okR (U j) ∧ (U j).2.1.length ≤ 4 ∧ (U j).2.2.length ≤ 4 := fun j hj => ⟨HUU.out.okR' hj, HUB.out.2 j hj⟩
                have hv1 := vec_fz hR
                have hv2 := vec_fz hU
                have hv3 := sum_fz hR hU
                have hs1 := hS.stS okc.1 okc.2.1 hrs hv1 (by omega) (by omega)
                have hs2 := hS.stS okc.1 okc.2.1 hrs hv2 (by omega) (by omega)
                have hs3 := hS.stS okc.1 okc.2.1 hrs hv3 (by omega) (by omega)
                have hsh : Short k (can fun s => valR (R s) + valR (U s)) := fun j hj => by
                  have hq : Sz 9 (valR (R j) + valR (U j)) := (Sz_valR (hR j hj).1 (by omega) (hR j hj).2.1 (hR j hj).2.2).add (Sz_valR (hU j hj).1 (by omega) (hU j hj).2.1 (hU j hj).2.2)
                  have := Sz_canR hq
                  show (canR (valR (R j) + valR (U j))).2.1.length ≤ 1000 ∧ (canR (valR (R j) + valR (U j))).2.2.length ≤ 1000
                  omega
                have hadd := fun s hs => Chn.step_adds (r := valR r) (R := R) (U := U) okc.1 HN.out s hs
                have f1 := hv1.step (hS.rts okc.1) okc.2.1 hrs (act := c.act false) (F := c.f) (T := c.t)
                have f2 := hv2.step (hS.rts okc.1) okc.2.1 hrs (act := c.act false) (F := c.f) (T := c.t)
                have f3 := hv3.step (hS.rts okc.1) okc.2.1 hrs (act := c.act false) (F := c.f) (T := c.t)
                obtain ⟨x, hx⟩ : ∃ x, x = c.stepQ false (valR r) (vecQ k R) := ⟨_, rfl⟩
                obtain ⟨y, hy⟩ : ∃ y, y = c.stepQ false (valR r) (vecQ k U) := ⟨_, rfl⟩
                obtain ⟨z, hz⟩ : ∃ z, z = c.stepQ false (valR r) (vecQ k (can fun s => valR (R s) + valR (U s))) := ⟨_, rfl⟩
                have KX : Hid (∀ W, Below w.heap.size w W → Below w1.heap.size w1 W → Calls Tryz.prog 25 #[cv c.st c.sr AM c.nm cm AD c.nd cd, rv s0 A0 n0 c0 B0 m0 d0, .slice AV k ca] W fun e w' => (∃ A c, e = .returned (.tuple #[.slice A k c, .nilIface]) ∧ RowA w' w'.heap.size A k (can x)) ∧ Below W.heap.size W w') := fun W hb hb' => (Step_any (HI.out W hb) hS.chS (HRR.out W hb') HP.out.l1 HP.out.l2 ((HVV.out.below hb).up hb.size) HVB.out.short (by omega) (fun _ => hs1)).mono fun e w' h => ⟨by
                  have h1 := h.1.out h.2.size
                  rw [codeT_0 HP.out.code HN.out hall] at h1
                  rw [hx]
                  exact h1, h.2⟩
                have KY : Hid (∀ W, Below w.heap.size w W → Below w1.heap.size w1 W → Calls Tryz.prog 25 #[cv c.st c.sr AM c.nm cm AD c.nd cd, rv s0 A0 n0 c0 B0 m0 d0, .slice AU k cu] W fun e w' => (∃ A c, e = .returned (.tuple #[.slice A k c, .nilIface]) ∧ RowA w' w'.heap.size A k (can y)) ∧ Below W.heap.size W w') := fun W hb hb' => (Step_any (HI.out W hb) hS.chS (HRR.out W hb') HP.out.l1 HP.out.l2 ((HUU.out.below hb).up hb.size) HUB.out.short (by omega) (fun _ => hs2)).mono fun e w' h => ⟨by
                  have h1 := h.1.out h.2.size
                  rw [codeT_0 HP.out.code HN.out halu] at h1
                  rw [hy]
                  exact h1, h.2⟩
                have KZ : Hid (∀ W A cA, RowA W W.heap.size A k (can fun s => valR (R s) + valR (U s)) → Below w.heap.size w W → Below w1.heap.size w1 W → Calls Tryz.prog 25 #[cv c.st c.sr AM c.nm cm AD c.nd cd, rv s0 A0 n0 c0 B0 m0 d0, .slice A k cA] W fun e w' => (∃ A c, e = .returned (.tuple #[.slice A k c, .nilIface]) ∧ RowA w' w'.heap.size A k (can z)) ∧ Below W.heap.size W w') := fun W A cA hA hb hb' => (Step_any (HI.out W hb) hS.chS (HRR.out W hb') HP.out.l1 HP.out.l2 hA hsh (by omega) (fun _ => hs3)).mono fun e w' h => ⟨by
                  have h1 := h.1.out h.2.size
                  rw [codeT_0 HP.out.code HN.out (allV_can _ _)] at h1
                  rw [hz]
                  exact h1, h.2⟩
                have HXS : Hid (∀ j, Sz 400 (x j)) := fun j => by rw [hx]; exact (f1.sz (by omega) j).more (by omega)
                have HYS : Hid (∀ j, Sz 400 (y j)) := fun j => by rw [hy]; exact (f2.sz (by omega) j).more (by omega)
                have HZS : Hid (∀ j, Sz 400 (z j)) := fun j => by rw [hz]; exact (f3.sz (by omega) j).more (by omega)
                have HADD : Hid (∀ j, j < k → z j = x j + y j) := fun j hj => by rw [hx, hy, hz]; exact hadd j hj
                have h1r : Below w1.heap.size w1 wr := HB15.out.trans (hb.mono (by have := HB15.out.size; omega))
                have z0 := (hb.cell (p := ⟨w.heap.size, 0, none⟩) (by show w.heap.size < _; omega)).trans y0
                have z1 := (hb.cell (p := ⟨w.heap.size, 1, none⟩) (by show w.heap.size < _; omega)).trans y1
                have z2 := (hb.cell (p := ⟨w.heap.size, 2, none⟩) (by show w.heap.size < _; omega)).trans y2
                have z3 := (hb.cell (p := ⟨w.heap.size, 3, none⟩) (by show w.heap.size < _; omega)).trans y3
                have z4 := (hb.cell (p := ⟨w1.heap.size, 0, none⟩) (by show w1.heap.size < _; omega)).trans y4
                have z5 := (hb.cell (p := ⟨w1.heap.size, 1, none⟩) (by show w1.heap.size < _; omega)).trans y5
                have z6 := (hb.cell (p := ⟨w1.heap.size, 2, none⟩) (by show w1.heap.size < _; omega)).trans y6
                have HBW := Lib.hid hbw
                have H1R := Lib.hid h1r
                have hwr9 : w1.heap.size < wr.heap.size := by omega
                have hwz := hbw.size
                clear hall halu hS okc hnd9 hrs hR hU hv1 hv2 hv3 hs1 hs2 hs3 hsh hadd f1 f2 f3 hx hy hz y0 y1 y2 y3 y4 y5 y6 hb hbw h1r
                have e0 : ((k : Int) != (k : Int)) = false := by simp
                (go_wp2_with fail; (with_reducible refine (KX.out _ HBW.out H1R.out).mono ?_); rintro e w6 ⟨⟨A6, c6, rfl, r6⟩, hb6⟩; have hb6z := Below.size hb6; (try simp only [World.size_alloc, World.size_setCell, World.size_drew, size_drewN'] at hb6z); have hb6c0 := fun o => below_at hb6 (w.heap.size) o (by first | omega | (simp only [World.size_alloc, World.size_setCell, World.size_drew, size_drewN']; omega)); have hb6f0 := fun o => below_fr hb6 (w.heap.size) o (by first | omega | (simp only [World.size_alloc, World.size_setCell, World.size_drew, size_drewN']; omega)); have hb6c1 := fun o => below_at hb6 (w1.heap.size) o (by first | omega | (simp only [World.size_alloc, World.size_setCell, World.size_drew, size_drewN']; omega)); have hb6f1 := fun o => below_fr hb6 (w1.heap.size) o (by first | omega | (simp only [World.size_alloc, World.size_setCell, World.size_drew, size_drewN']; omega)))
                have HR6 := Lib.hid r6
                clear r6
                (go_wp2_with fail; (with_reducible refine (KY.out _ (HBW.out.trans (hb6.mono hwz)) (H1R.out.trans (hb6.mono H1R.out.size))).mono ?_); rintro e w7 ⟨⟨A7, c7, rfl, r7⟩, hb7⟩; have hb7z := Below.size hb7; (try simp only [World.size_alloc, World.size_setCell, World.size_drew, size_drewN'] at hb7z); have hb7c0 := fun o => below_at hb7 (w.heap.size) o (by first | omega | (simp only [World.size_alloc, World.size_setCell, World.size_drew, size_drewN']; omega)); have hb7f0 := fun o => below_fr hb7 (w.heap.size) o (by first | omega | (simp only [World.size_alloc, World.size_setCell, World.size_drew, size_drewN']; omega)); have hb7c1 := fun o => below_at hb7 (w1.heap.size) o (by first | omega | (simp only [World.size_alloc, World.size_setCell, World.size_drew, size_drewN']; omega)); have hb7f1 := fun o => below_fr hb7 (w1.heap.size) o (by first | omega | (simp only [World.size_alloc, World.size_setCell, World.size_drew, size_drewN']; omega)))
                have HR7 := Lib.hid r7
                have h79 : Below wr.heap.size wr w7 := hb6.trans (hb7.mono hb6.size)
                clear r7
                (go_wp2_with fail; (with_reducible refine (KZ.out _ A cA ((HO.out.ra.below h79).up (by have := h79.size; omega)) (HBW.out.trans (h79.mono hwz)) (H1R.out.trans (h79.mono H1R.out.size))).mono ?_); rintro e w8 ⟨⟨A8, c8, rfl, r8⟩, hb8⟩; have hb8z := Below.size hb8; (try simp only [World.size_alloc, World.size_setCell, World.size_drew, size_drewN'] at hb8z))
                have h78 : Below w7.heap.size w7 w8 := hb8
                have HR8 := Lib.hid r8
                have HX8 := Lib.hid (HR6.out.below (hb7.trans (hb8.mono hb7.size)))
                have HY8 := Lib.hid (HR7.out.below hb8)
                have HB8 := Lib.hid (HBW.out.trans ((h79.trans (hb8.mono h79.size)).mono hwz))
                clear r8 h78 h79 hb6 hb7 hb8 z0 z1 z2 z3 z4 z5 z6
                go_wp2
                go_loopw [137] (fun i wr => ∃ j : Nat, j ≤ k ∧ i = .int .i64 (j : Int) ∧ Below w8.heap.size w8 wr) (fun i _ => k - (intOf i).toNat)
                case atStart => exact ⟨0, Nat.zero_le _, rfl, Below.refl _ _⟩
                case round =>
                  obtain ⟨j, hj, rfl, hb9⟩ := hrel
                  have HB9 := Lib.hid hb9
                  have hz9 := hb9.size
                  by_cases hlj : j < k
                  · obtain ⟨bx, ox, s1, A1, n1, c1, B1, m1, d1, rfl, hbx, f0, f1, f2, r1⟩ := HX8.out.at_ hlj
                    obtain ⟨bu, ou, s2, A2, n2, c2, B2, m2, d2, rfl, hbu, g0, g1, g2, r2⟩ := HY8.out.at_ hlj
                    obtain ⟨bz, oz, s3, A3, n3, c3, B3, m3, d3, rfl, hbz9, i0, i1, i2, r3⟩ := HR8.out.at_ hlj
                    have x0 := (hb9.cell (lt_of_cell f0)).trans f0
                    have x1 := (hb9.cell (lt_of_cell f1)).trans f1
                    have x2 := (hb9.cell (lt_of_cell f2)).trans f2
                    have x3 := (hb9.cell (lt_of_cell g0)).trans g0
                    have x4 := (hb9.cell (lt_of_cell g1)).trans g1
                    have x5 := (hb9.cell (lt_of_cell g2)).trans g2
                    have x6 := (hb9.cell (lt_of_cell i0)).trans i0
                    have x7 := (hb9.cell (lt_of_cell i1)).trans i1
                    have x8 := (hb9.cell (lt_of_cell i2)).trans i2
                    have q1 := RdS.canQ (q := x j) (r1.kp (Kp.of_below hb9)) (HXS.out j)
                    have q2 := RdS.canQ (q := y j) (r2.kp (Kp.of_below hb9)) (HYS.out j)
                    have KA := Lib.hid (fun W (hb : Below wr.heap.size wr W) => addQ (q1.below hb) (q2.below hb) (by omega) (by omega))
                    have KC9 := Lib.hid (fun W u (hb : Below wr.heap.size wr W) (hu : RdS W 0 u (canR (x j + y j))) => cmpS (L := 801) (z := 0) ((r3.kp (Kp.of_below (hb9.trans (hb.mono hz9)))) : RdS W _ _ (canR (z j))) hu ((HZS.out j).more (by omega)) ((HXS.out j).add (HYS.out j)) (by omega) (by omega) (by rw [HADD.out j hlj, Rat.sub_self]; rfl))
                    have hk0 : (0 : Int) ≤ (j : Int) := by omega
                    have hki : (j : Int) < (k : Int) := by omega
                    have hbx7 : bx < wr.heap.size := by omega
                    have hbu7 : bu < wr.heap.size := by omega
                    have hbz7 : bz < wr.heap.size := by omega
                    clear f0 f1 f2 g0 g1 g2 i0 i1 i2 r1 r2 r3 q1 q2 hb9
                    go_wp2
                    go_region_held3 (fun W => W.cell? ⟨bx, ox + j * 3, none⟩ = some (.bool s1) ∧ W.cell? ⟨bx, ox + j * 3 + 1, none⟩ = some (.slice A1 n1 c1) ∧ W.cell? ⟨bx, ox + j * 3 + 2, none⟩ = some (.slice B1 m1 d1) ∧ W.cell? ⟨bu, ou + j * 3, none⟩ = some (.bool s2) ∧ W.cell? ⟨bu, ou + j * 3 + 1, none⟩ = some (.slice A2 n2 c2) ∧ W.cell? ⟨bu, ou + j * 3 + 2, none⟩ = some (.slice B2 m2 d2) ∧ W.cell? ⟨bz, oz + j * 3, none⟩ = some (.bool s3) ∧ W.cell? ⟨bz, oz + j * 3 + 1, none⟩ = some (.slice A3 n3 c3) ∧ W.cell? ⟨bz, oz + j * 3 + 2, none⟩ = some (.slice B3 m3 d3)) (go_keep)
                      (first | ((go_at_call 34; (with_reducible refine (KA.out _ (by (skip); repeat' (first | (with_reducible exact Below.refl _ _) | (with_reducible assumption) | (with_reducible refine Below.alloc ?_ ?_ _) | (with_reducible refine Below.drew ?_) | (with_reducible refine below_drewN ?_ _) | (with_reducible refine Below.setCell ?_ ?_ _) | (with_reducible refine Below.trans ?_ (Below.mono (by with_reducible assumption) ?_)) | omega | (simp only [World.size_alloc, World.size_setCell, World.size_drew, size_drewN']; omega) | go_size))).mono ?_); rintro e w9 ⟨⟨v9, rfl, own9⟩, hb9⟩; have hb9z := Below.size hb9; (try simp only [World.size_alloc, World.size_setCell, World.size_drew] at hb9z); have hb9c0 := fun o => below_at hb9 (bx) o (by first | omega | (simp only [World.size_alloc, World.size_setCell, World.size_drew]; omega)); have hb9f0 := fun o => below_fr hb9 (bx) o (by first | omega | (simp only [World.size_alloc, World.size_setCell, World.size_drew]; omega)); have hb9l0 : bx < (w9).heap.size := (by omega); have hb9c1 := fun o => below_at hb9 (bu) o (by first | omega | (simp only [World.size_alloc, World.size_setCell, World.size_drew]; omega)); have hb9f1 := fun o => below_fr hb9 (bu) o (by first | omega | (simp only [World.size_alloc, World.size_setCell, World.size_drew]; omega)); have hb9l1 : bu < (w9).heap.size := (by omega); have hb9c2 := fun o => below_at hb9 (bz) o (by first | omega | (simp only [World.size_alloc, World.size_setCell, World.size_drew]; omega)); have hb9f2 := fun o => below_fr hb9 (bz) o (by first | omega | (simp only [World.size_alloc, World.size_setCell, World.size_drew]; omega)); have hb9l2 : bz < (w9).heap.size := (by omega)); obtain ⟨s9, A9, n9, c9, B9, m9, d9, rfl⟩ := own9.form) | (go_at_call 21; (with_reducible refine (KC9.out _ _ (by have z0 := Below.size hb9; (try simp only [World.size_alloc, World.size_setCell, World.size_drew, size_drewN'] at z0 ⊢; skip); repeat' (first | (with_reducible exact Below.refl _ _) | (with_reducible assumption) | (with_reducible refine Below.alloc ?_ ?_ _) | (with_reducible refine Below.drew ?_) | (with_reducible refine below_drewN ?_ _) | (with_reducible refine Below.setCell ?_ ?_ _) | (with_reducible refine Below.trans ?_ (Below.mono (by with_reducible assumption) ?_)) | omega | (simp only [World.size_alloc, World.size_setCell, World.size_drew, size_drewN']; omega) | go_size)) ((own9.rs (b0 := 0)).kp (Kp.of_below (by (skip); repeat' (first | (with_reducible exact Below.refl _ _) | (with_reducible assumption) | (with_reducible refine Below.alloc ?_ ?_ _) | (with_reducible refine Below.drew ?_) | (with_reducible refine below_drewN ?_ _) | (with_reducible refine Below.setCell ?_ ?_ _) | (with_reducible refine Below.trans ?_ (Below.mono (by with_reducible assumption) ?_)) | omega | (simp only [World.size_alloc, World.size_setCell, World.size_drew, size_drewN']; omega) | go_size))))).mono ?_); rintro e w10 ⟨rfl, hb10⟩; have hb10z := Below.size hb10; (try simp only [World.size_alloc, World.size_setCell, World.size_drew] at hb10z); have hb10c0 := fun o => below_at hb10 (bx) o (by first | omega | (simp only [World.size_alloc, World.size_setCell, World.size_drew]; omega)); have hb10f0 := fun o => below_fr hb10 (bx) o (by first | omega | (simp only [World.size_alloc, World.size_setCell, World.size_drew]; omega)); have hb10l0 : bx < (w10).heap.size := (by omega); have hb10c1 := fun o => below_at hb10 (bu) o (by first | omega | (simp only [World.size_alloc, World.size_setCell, World.size_drew]; omega)); have hb10f1 := fun o => below_fr hb10 (bu) o (by first | omega | (simp only [World.size_alloc, World.size_setCell, World.size_drew]; omega)); have hb10l1 : bu < (w10).heap.size := (by omega); have hb10c2 := fun o => below_at hb10 (bz) o (by first | omega | (simp only [World.size_alloc, World.size_setCell, World.size_drew]; omega)); have hb10f2 := fun o => below_fr hb10 (bz) o (by first | omega | (simp only [World.size_alloc, World.size_setCell, World.size_drew]; omega)); have hb10l2 : bz < (w10).heap.size := (by omega)) | fail)
                    all_goals
                      have h99 : Below wr.heap.size wr w10 := (by have z0 := Below.size hb9; have z1 := Below.size hb10; (try simp only [World.size_alloc, World.size_setCell, World.size_drew, size_drewN'] at z0 z1 ⊢; skip); repeat' (first | (with_reducible exact Below.refl _ _) | (with_reducible assumption) | (with_reducible refine Below.alloc ?_ ?_ _) | (with_reducible refine Below.drew ?_) | (with_reducible refine below_drewN ?_ _) | (with_reducible refine Below.setCell ?_ ?_ _) | (with_reducible refine Below.trans ?_ (Below.mono (by with_reducible assumption) ?_)) | omega | (simp only [World.size_alloc, World.size_setCell, World.size_drew, size_drewN']; omega) | go_size))
                      have H99 := Lib.hid h99
                      clear h99 hb9 hb10
                      go_wp2
                      go_roundw
                      case rel => exact ⟨j + 1, by omega, by go_num, HB9.out.trans (H99.out.mono hz9)⟩
                      case measure => simp [intOf]; omega
                  · obtain rfl : j = k := by omega
                    clear hb9
                    go_wp2
                    go_ret
                    exact ⟨rfl, HB8.out.trans (HB9.out.mono HB8.out.size)⟩
          · have e2 : ((m : Int) != c.st) = true := by rw [hst, bne_iff_ne]; omega
            clear hn hst ok hm
            (go_wp2_with fail; (with_reducible refine (awake_any _).mono ?_); rintro e w5 ⟨rfl, hb5⟩; have hb5z := Below.size hb5; (try simp only [World.size_alloc, World.size_setCell, World.size_drew, size_drewN'] at hb5z))
            go_wp2
            go_ret
            exact ⟨rfl, hB4.trans (hb5.mono hB4.size)⟩
        · have e1 : ((n : Int) != c.st) = true := by rw [hst, bne_iff_ne]; omega
          clear hn hst ok
          (go_wp2_with fail; (with_reducible refine (awake_any _).mono ?_); rintro e w5 ⟨rfl, hb5⟩; have hb5z := Below.size hb5; (try simp only [World.size_alloc, World.size_setCell, World.size_drew, size_drewN'] at hb5z))
          go_wp2
          go_ret
          exact ⟨rfl, hB4.trans (hb5.mono hB4.size)⟩
end Go.Proofs.YtemejneabpjfhaaGreatDoor
