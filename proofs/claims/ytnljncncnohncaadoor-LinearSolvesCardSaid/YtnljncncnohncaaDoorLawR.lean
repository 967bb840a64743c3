/- Contracts of functions and lemmas, used by the proofs of the given statements. No condition beyond those that each lemma names. -/
import Derived.Test.YtnljncncnohncaaDoorLinX
import Derived.Test.YtnljncncnohncaaDoorLawM
namespace Go.Proofs.YtnljncncnohncaaDoor
open Go.RowKit
set_option linter.unusedSimpArgs false
set_option linter.unusedVariables false
set_option maxRecDepth 20000
attribute [local irreducible] nv wp win plainB validR valR canR gj findR elim swp gl
/-! ## LinearRows -/
theorem gl37 {c : Nat} (h : c ≤ 8) : gl 3 c ≤ 300000 := Nat.le_trans (gl_mono h) (by decide +kernel)
theorem SmallM.redP {w : World} {n ca : Nat} {A : Option Addr} {len : Nat → Nat} {R : Nat → Nat → Rw} (hs : SmallM n len R) (hc : codeM n len = 0) (h : MatI w w.heap.size A n len R) :
    Calls Tryd.prog 25 #[.slice A n ca] w fun e w' => RetR3 w.heap.size n (len 0) (fun i k => valR (R i k)) e w' ∧ Below w.heap.size w w' := by
  obtain ⟨h1, h2, h3, h4, h5, h6⟩ := hs.acc hc
  exact reduceP_any (L := 3) h hc rfl h6 (fun i k hi hk => h.ok hi (by rw [h5 i hi]; exact hk)) (by omega) (by have := gl37 (show len 0 ≤ 8 by omega); omega)
theorem SmallM.rankP {w : World} {n ca : Nat} {A : Option Addr} {len : Nat → Nat} {R : Nat → Nat → Rw} (hs : SmallM n len R) (hc : codeM n len = 0) (h : MatI w w.heap.size A n len R) :
    Calls Tryd.prog 30 #[.slice A n ca] w fun e w' => e = .returned (.tuple #[.int .i64 (((gj n (fun i k => valR (R i k)) (len 0)).2.length : Nat) : Int), .nilIface]) ∧ Below w.heap.size w w' := by
  obtain ⟨h1, h2, h3, h4, h5, h6⟩ := hs.acc hc
  exact rankP_any (L := 3) h hc rfl h6 (fun i k hi hk => h.ok hi (by rw [h5 i hi]; exact hk)) (by omega) (by have := gl37 (show len 0 ≤ 8 by omega); omega)
theorem SmallM.kerP {w : World} {n ca : Nat} {A : Option Addr} {len : Nat → Nat} {R : Nat → Nat → Rw} (hs : SmallM n len R) (hc : codeM n len = 0) (h : MatI w w.heap.size A n len R) :
    Calls Tryd.prog 31 #[.slice A n ca] w fun e w' => RetKer w.heap.size n (len 0) (fun i k => valR (R i k)) e w' ∧ Below w.heap.size w w' := by
  obtain ⟨h1, h2, h3, h4, h5, h6⟩ := hs.acc hc
  exact kernelP_any (L := 3) h hc rfl h6 (fun i k hi hk => h.ok hi (by rw [h5 i hi]; exact hk)) (by omega) (by have := gl37 (show len 0 ≤ 8 by omega); omega)
set_option maxHeartbeats 8000000 in
theorem linearRows_law {w : World} {n ca : Nat} {A : Option Addr} {len : Nat → Nat} {R : Nat → Nat → Rw} (h : MatI w w.heap.size A n len R) :
    Calls Tryd.prog 4 #[.slice A n ca] w fun e w' => e = .returned (.bool true) ∧ Below w.heap.size w w' := by
  have HA := Lib.hid h
  have KL := Lib.hid (fun (W : World) (g : Nat) (hb : Below w.heap.size w W) (hc : W.cell? ⟨g, 0, none⟩ = some (.slice A n ca)) => large1 (cm := 1) h hb hc)
  clear h
  go_enter Tryd.func4, Tryd.ntmps4
  go_wp2_with (first | (go_at_call 11; (with_reducible refine (awake_any _).mono ?_); rintro e w1 ⟨rfl, hb1⟩; have hb1z := Below.size hb1; (try simp only [World.size_alloc, World.size_setCell, World.size_drew] at hb1z)) | fail)
  have hw1 : Below w.heap.size w (w1.alloc (.cells #[.slice A n ca] 22)) := hb1.alloc hb1.size _
  ((go_at_call 12; (with_reducible refine (KL.out _ _ hw1 (cell_new' rfl rfl)).mono ?_); rintro e w2 ⟨⟨bb, rfl, hbb⟩, hb2⟩; have hb2z := Below.size hb2; (try simp only [World.size_alloc, World.size_setCell, World.size_drew] at hb2z)))
  have hb12 : Below w.heap.size w w2 := hw1.trans (hb2.mono (by simp; omega))
  clear hw1 KL
  cases bb with
  | true =>
    clear hbb
    go_wp2_with (first | (go_at_call 11; (with_reducible refine (awake_any _).mono ?_); rintro e w3 ⟨rfl, hb3⟩; have hb3z := Below.size hb3; (try simp only [World.size_alloc, World.size_setCell, World.size_drew] at hb3z)) | fail)
    have hb13 := hb12.trans (hb3.mono hb12.size)
    go_ret
    exact ⟨rfl, hb13⟩
  | false =>
    have HS := Lib.hid (hbb rfl)
    clear hbb
    by_cases hc : codeM n len = 0
    · have KC := Lib.hid (check_any (ca := ca) (HA.out.at_below hb12) (by have := HS.out.le.1; omega) (fun i hi => by have := HS.out.le.2 i hi; omega))
      rw [hc, errM_0] at KC
      have KR := Lib.hid (HS.out.redP (ca := ca) hc (HA.out.at_below hb12))
      obtain ⟨hn7, hc7, hn0, hl0, h5, h6⟩ := HS.out.acc hc
      have HL := Lib.hid h5
      obtain ⟨M, hM⟩ : ∃ M : Mf, M = fun i k => valR (R i k) := ⟨_, rfl⟩
      obtain ⟨c, hcl⟩ : ∃ c, c = len 0 := ⟨_, rfl⟩
      rw [← hcl] at HL hl0 hc7 KR
      rw [← hM] at KR
      have HSM := Lib.hid (fun i k (hi : i < n) (hk : k < c) => (by rw [hM]; exact HA.out.sz (m := 0) HS.out hi (by rw [HL.out i hi]; exact hk) : Sz 3 (M i k)))
      have HSS := Lib.hid (gj_sz (n := n) (M := M) (c := c) (show 1 ≤ 3 by omega) HSM.out c (Nat.le_refl _))
      have HZ := Lib.hid (fun i k (hi : i < n) (hk : k < c) => h6 i k hi (by omega))
      have HM := Lib.hid hM
      have HROW := Lib.hid (gj_rows (n := n) (c := c) (M := M))
      have hGL := gl37 (show c ≤ 8 by omega)
      have HG := Lib.hid (gl_pos (L := 3) (by omega) c)
      have hB3 : 3 ≤ gl 3 c := by have := gl_mono (L := 3) (Nat.zero_le c); rwa [gl_0] at this
      clear h5 h6 hM hcl hc HS
      obtain ⟨p, hp⟩ : ∃ p, p = (gj n M c).2 := ⟨_, rfl⟩
      obtain ⟨S, hS⟩ : ∃ S, S = (gj n M c).1 := ⟨_, rfl⟩
      have HPL := Lib.hid (fun x (hx : x ∈ p) => gj_lt c x (hp ▸ hx))
      have hpl : p.length ≤ n := by rw [hp]; exact (gj_len_le c).2
      unfold RetR3 at KR
      rw [← hS] at HSS HROW
      rw [← hp, ← hS] at KR
      rw [← hp] at HROW
      clear hp hS
      obtain ⟨r, hr⟩ : ∃ r, r = p.length := ⟨_, rfl⟩
      rw [← hr] at hpl KR HROW
      have HR := Lib.hid hr
      clear hr
      obtain ⟨B, hB⟩ : ∃ B, B = gl 3 c := ⟨_, rfl⟩
      rw [← hB] at HSS hGL HG hB3
      clear hB
      have hr1 : ¬ ((n : Int) < (r : Int)) := by omega
      have hr2 : decide (n < r) = false := decide_eq_false (by omega)
      have hr3 : ¬ n < r := by omega
      go_wp2_with (first | (go_at_call 24; (with_reducible refine (KC.out).mono ?_); rintro e _ ⟨rfl, rfl⟩) | ((go_at_call 25; (with_reducible refine (KR.out).mono ?_); rintro e w3 ⟨⟨bo, co, P, cp, rfl, own3, opv3⟩, hb3⟩; have hb3z := Below.size hb3; (try simp only [World.size_alloc, World.size_setCell, World.size_drew] at hb3z))) | fail)
      have HO := Lib.hid own3
      have HP := Lib.hid opv3
      have hb13 : Below w.heap.size w w3 := hb12.trans (hb3.mono hb12.size)
      clear own3 opv3 KC KR
      have h13 := hb13.size
      have hnn : (0 : Int) < (n : Int) := by omega
      go_loopw [49] (fun i wr => ∃ k : Nat, k ≤ n ∧ i = .int .i64 k ∧ Below w3.heap.size w3 wr) (fun i _ => n - (intOf i).toNat)
      case atStart => exact ⟨0, Nat.zero_le _, rfl, Below.refl _ _⟩
      case round =>
        obtain ⟨i, hi, rfl, hb4⟩ := hrel
        have hb4z := hb4.size
        by_cases hin : i < n
        · obtain ⟨x1, x2, Ai, ci, rfl, _, ha0, hlc, hrow⟩ := HA.out.at_ hin
          have hbw := hb13.trans (hb4.mono h13)
          rw [HL.out i hin] at ha0 hlc hrow
          have ha1 := (hbw.cell (lt_of_cell ha0)).trans ha0
          have HROWI := Lib.hid hrow
          clear ha0 hrow hbw
          go_wp2
          go_loopw [55] (fun j wr => ∃ k : Nat, k ≤ c ∧ j = .int .i64 k ∧ Below w3.heap.size w3 wr) (fun j _ => c - (intOf j).toNat)
          case atStart => exact ⟨0, Nat.zero_le _, rfl, hb4⟩
          case round =>
            obtain ⟨j, hj, rfl, hb5⟩ := hrel
            have hb5z := hb5.size
            by_cases hjc : j < c
            · obtain ⟨wq, hwq⟩ : ∃ wq, wq = wr := ⟨_, rfl⟩
              subst hwq
              have hv0 := OwR.lit (w := wq) (b0 := 0) (by omega) (RdS.zero wq 0)
              have hb50 : Below wq.heap.size wq (wq.alloc zc) := (Below.refl _ _).alloc (Nat.le_refl _) _
              go_wp2
              go_loopw [61] (fun s wr => ∃ k : Nat, k ≤ r ∧ s = .int .i64 k ∧ OwR wr 0 (some ⟨wq.heap.size, 0, none⟩) 1 1 (can fun _ => dotS (fun t => M i (pv p t)) (fun t => S t j) k) ∧ Below wq.heap.size wq wr) (fun s _ => r - (intOf s).toNat)
              case atStart => exact ⟨0, Nat.zero_le _, rfl, hv0, hb50⟩
              case round =>
                obtain ⟨s, hs, rfl, own, hb6⟩ := hrel
                have hb6z := hb6.size
                have hb16 : Below w3.heap.size w3 wr := hb5.trans (hb6.mono hb5z)
                have hbw : Below w.heap.size w wr := hb13.trans (hb16.mono h13)
                have hgl := own.lt
                have hfz := own.frozen
                obtain ⟨s0, A3, n3, c3', B3, m3, d3, o0, o1, o2, r0⟩ := own.var
                by_cases hst : s < r
                · have hlt' : s < p.length := by rw [← HR.out]; exact hst
                  obtain ⟨gP, rfl, hcP⟩ := (HP.out.below hb16).at_ hlt'
                  have hx := HPL.out _ (List.getElem_mem hlt')
                  have HXE := Lib.hid (pv_at hlt')
                  generalize p[s] = x at *
                  have hsn : s < n := by omega
                  obtain ⟨gS, dS, hX3⟩ := HO.out.row1 hsn hl0
                  have hg3 := (hX3.own hsn).lt
                  have hXS := hX3.below hb16
                  have hcS := hXS.cell hsn
                  try simp only at hcS
                  obtain ⟨s2, A2, n2, c2, B2, m2, d2, g0, g1, g2, r2⟩ := (hXS.own hsn).at_ hjc
                  have hgSl := (hXS.own hsn).lt
                  have hbol := hXS.mg.lt
                  obtain ⟨ax, ox, s1, A1, n1, c1, B1, m1, d1, rfl, hax, f0, f1, f2, r1⟩ := HROWI.out.ra.at_ hx
                  have tc : ∀ {b o : Nat} {v : Value}, w.cell? ⟨b, o, none⟩ = some v → wr.cell? ⟨b, o, none⟩ = some v := fun h => (hbw.cell (lt_of_cell h)).trans h
                  have hf0 := tc f0
                  have hf1 := tc f1
                  have hf2 := tc f2
                  have q1 := ((r1.kp (Kp.of_below hbw)).rdq (HZ.out i x hin hx).1 (HZ.out i x hin hx).2).more hB3
                  rw [show valR (R i x) = M i x by rw [HM.out]] at q1
                  have q2 := r2.canQ (HSS.out s j hsn hjc)
                  have sp := ((HSM.out i x hin hx).more hB3).mul (HSS.out s j hsn hjc) HG.out
                  have sd := dotS_sz (x := fun t => M i (pv p t)) (y := fun t => S t j) (L := B) (m := r) HG.out (fun t ht => (HSM.out i _ hin (by rw [pv_at (by rw [← HR.out]; exact ht)]; exact HPL.out _ (List.getElem_mem _))).more hB3) (fun t ht => HSS.out t j (by omega) hjc) s (by omega)
                  obtain ⟨E, hE⟩ : ∃ E, E = s * (2 * B + 1) + 1 + (B + B) := ⟨_, rfl⟩
                  have hEb : E ≤ 1000000000 := by
                    have : s * (2 * B + 1) ≤ 256 * (2 * B + 1) := Nat.mul_le_mul_right _ (by omega)
                    omega
                  have qd := RdS.canQ (q := dotS (fun t => M i (pv p t)) (fun t => S t j) s) r0 (sd.more (show _ ≤ E by omega))
                  have K1 := Lib.hid (fun W (hb : Below wr.heap.size wr W) => mulQ (q1.below hb) (q2.below hb) HG.out (by omega))
                  have K2 := Lib.hid (fun W base v1 (hb : Below wr.heap.size wr W) (hv : OwQ W base v1 (M i x * S s j)) => addQ (qd.below hb) (hv.rq (sp.more (show _ ≤ E by omega))) (by omega) (by omega))
                  have HOW := Lib.hid own
                  have ne1 : ¬ (ax = wq.heap.size) := by omega
                  have ne2 : ¬ (wq.heap.size = ax) := by omega
                  have ne3 : ¬ (bo = wq.heap.size) := by have := HO.out.lt; omega
                  have ne4 : ¬ (wq.heap.size = bo) := by have := HO.out.lt; omega
                  have ne5 : ¬ (gS = wq.heap.size) := by omega
                  have ne6 : ¬ (wq.heap.size = gS) := by omega
                  have hs0 : (0 : Int) ≤ (s : Int) := by omega
                  have hs1 : (s : Int) < (r : Int) := by omega
                  have hx0 : (0 : Int) ≤ (x : Int) := by omega
                  have hx1 : (x : Int) < (c : Int) := by omega
                  have hx2 : ¬ ((x : Int) < 0) := by omega
                  have hx3 : ¬ ((c : Int) ≤ (x : Int)) := by omega
                  have hj0 : (0 : Int) ≤ (j : Int) := by omega
                  have hj1 : (j : Int) < (c : Int) := by omega
                  clear q1 q2 sp sd hE qd f0 f1 f2 r0 r1 r2 own tc hX3 hXS
                  go_wp2
                  rw [ld_later 37 (.tmp 9)]
                  go_region_held3 (fun W => W.cell? ⟨ax, ox + x * 3, none⟩ = some (.bool s1) ∧ W.cell? ⟨ax, ox + x * 3 + 1, none⟩ = some (.slice A1 n1 c1) ∧ W.cell? ⟨ax, ox + x * 3 + 2, none⟩ = some (.slice B1 m1 d1) ∧ W.cell? ⟨bo, s, none⟩ = some (.slice (some ⟨gS, 0, none⟩) c dS) ∧ W.cell? ⟨gS, j * 3, none⟩ = some (.bool s2) ∧ W.cell? ⟨gS, j * 3 + 1, none⟩ = some (.slice A2 n2 c2) ∧ W.cell? ⟨gS, j * 3 + 2, none⟩ = some (.slice B2 m2 d2)) (go_keep)
                    (first | ((go_at_call 27; (with_reducible refine (K1.out _ (by (skip); repeat' (first | (with_reducible exact Below.refl _ _) | (with_reducible assumption) | (with_reducible refine Below.alloc ?_ ?_ _) | (with_reducible refine Below.drew ?_) | (with_reducible refine below_drewN ?_ _) | (with_reducible refine Below.setCell ?_ ?_ _) | (with_reducible refine Below.trans ?_ (Below.mono (by with_reducible assumption) ?_)) | omega | (simp only [World.size_alloc, World.size_setCell, World.size_drew, size_drewN']; omega) | go_size))).mono ?_); rintro e w5 ⟨⟨v5, rfl, own5⟩, hb7⟩; have hb7z := Below.size hb7; (try simp only [World.size_alloc, World.size_setCell, World.size_drew] at hb7z); have hb7c0 := fun o => below_at hb7 (wq.heap.size) o (by first | omega | (simp only [World.size_alloc, World.size_setCell, World.size_drew]; omega)); have hb7f0 := fun o => below_fr hb7 (wq.heap.size) o (by first | omega | (simp only [World.size_alloc, World.size_setCell, World.size_drew]; omega)); have hb7l0 : wq.heap.size < (w5).heap.size := (by omega); have hb7c1 := fun o => below_at hb7 (ax) o (by first | omega | (simp only [World.size_alloc, World.size_setCell, World.size_drew]; omega)); have hb7f1 := fun o => below_fr hb7 (ax) o (by first | omega | (simp only [World.size_alloc, World.size_setCell, World.size_drew]; omega)); have hb7l1 : ax < (w5).heap.size := (by omega); have hb7c2 := fun o => below_at hb7 (bo) o (by first | omega | (simp only [World.size_alloc, World.size_setCell, World.size_drew]; omega)); have hb7f2 := fun o => below_fr hb7 (bo) o (by first | omega | (simp only [World.size_alloc, World.size_setCell, World.size_drew]; omega)); have hb7l2 : bo < (w5).heap.size := (by omega); have hb7c3 := fun o => below_at hb7 (gS) o (by first | omega | (simp only [World.size_alloc, World.size_setCell, World.size_drew]; omega)); have hb7f3 := fun o => below_fr hb7 (gS) o (by first | omega | (simp only [World.size_alloc, World.size_setCell, World.size_drew]; omega)); have hb7l3 : gS < (w5).heap.size := (by omega)); obtain ⟨s5, A5, n5, c5, B5, m5, d5, rfl⟩ := own5.form) | ((go_at_call 26; (with_reducible refine (K2.out _ _ _ (by have z0 := Below.size hb7; (try simp only [World.size_alloc, World.size_setCell, World.size_drew, size_drewN'] at z0 ⊢; skip); repeat' (first | (with_reducible exact Below.refl _ _) | (with_reducible assumption) | (with_reducible refine Below.alloc ?_ ?_ _) | (with_reducible refine Below.drew ?_) | (with_reducible refine below_drewN ?_ _) | (with_reducible refine Below.setCell ?_ ?_ _) | (with_reducible refine Below.trans ?_ (Below.mono (by with_reducible assumption) ?_)) | omega | (simp only [World.size_alloc, World.size_setCell, World.size_drew, size_drewN']; omega) | go_size)) own5).mono ?_); rintro e w6 ⟨⟨v6, rfl, own6⟩, hb8⟩; have hb8z := Below.size hb8; (try simp only [World.size_alloc, World.size_setCell, World.size_drew] at hb8z); have hb8c0 := fun o => below_at hb8 (wq.heap.size) o (by first | omega | (simp only [World.size_alloc, World.size_setCell, World.size_drew]; omega)); have hb8f0 := fun o => below_fr hb8 (wq.heap.size) o (by first | omega | (simp only [World.size_alloc, World.size_setCell, World.size_drew]; omega)); have hb8l0 : wq.heap.size < (w6).heap.size := (by omega); have hb8c1 := fun o => below_at hb8 (ax) o (by first | omega | (simp only [World.size_alloc, World.size_setCell, World.size_drew]; omega)); have hb8f1 := fun o => below_fr hb8 (ax) o (by first | omega | (simp only [World.size_alloc, World.size_setCell, World.size_drew]; omega)); have hb8l1 : ax < (w6).heap.size := (by omega); have hb8c2 := fun o => below_at hb8 (bo) o (by first | omega | (simp only [World.size_alloc, World.size_setCell, World.size_drew]; omega)); have hb8f2 := fun o => below_fr hb8 (bo) o (by first | omega | (simp only [World.size_alloc, World.size_setCell, World.size_drew]; omega)); have hb8l2 : bo < (w6).heap.size := (by omega); have hb8c3 := fun o => below_at hb8 (gS) o (by first | omega | (simp only [World.size_alloc, World.size_setCell, World.size_drew]; omega)); have hb8f3 := fun o => below_fr hb8 (gS) o (by first | omega | (simp only [World.size_alloc, World.size_setCell, World.size_drew]; omega)); have hb8l3 : gS < (w6).heap.size := (by omega)); obtain ⟨s6, A6, n6, c6, B6, m6, d6, rfl⟩ := own6.form) | fail)
                  all_goals
                    have hb9 : Below wr.heap.size wr w6 := (by have z0 := Below.size hb7; have z1 := Below.size hb8; (try simp only [World.size_alloc, World.size_setCell, World.size_drew, size_drewN'] at z0 z1 ⊢; skip); repeat' (first | (with_reducible exact Below.refl _ _) | (with_reducible assumption) | (with_reducible refine Below.alloc ?_ ?_ _) | (with_reducible refine Below.drew ?_) | (with_reducible refine below_drewN ?_ _) | (with_reducible refine Below.setCell ?_ ?_ _) | (with_reducible refine Below.trans ?_ (Below.mono (by with_reducible assumption) ?_)) | omega | (simp only [World.size_alloc, World.size_setCell, World.size_drew, size_drewN']; omega) | go_size))
                    have o4 := (HOW.out.below hb9).setVar (own6.rs (b0 := 0))
                    have hb10 := hb6.trans ((hb9.mono (by omega)).trans (below_of_row (b0 := wq.heap.size) o4.2 (fun q hq => by injection hq with hq; omega) (by have := hb9.size; omega)))
                    have o5 : OwR _ 0 (some ⟨wq.heap.size, 0, none⟩) 1 1 (can fun _ => dotS (fun t => M i (pv p t)) (fun t => S t j) (s + 1)) := o4.1.congr fun _ _ => by show canR _ = canR (dotS _ _ s + M i (pv p s) * S s j); rw [HXE.out]
                    go_wp2
                    go_roundw
                    case rel => exact ⟨s + 1, by omega, by go_num, o5, hb10⟩
                    case measure => simp [intOf]; omega
                · have hsr : s = r := by omega
                  subst hsr
                  obtain ⟨ax, ox, s1, A1, n1, c1, B1, m1, d1, rfl, hax, f0, f1, f2, r1⟩ := HROWI.out.ra.at_ hjc
                  have tc : ∀ {b o : Nat} {v : Value}, w.cell? ⟨b, o, none⟩ = some v → wr.cell? ⟨b, o, none⟩ = some v := fun h => (hbw.cell (lt_of_cell h)).trans h
                  have hf0 := tc f0
                  have hf1 := tc f1
                  have hf2 := tc f2
                  have q1 := ((r1.kp (Kp.of_below hbw)).rdq (HZ.out i j hin hjc).1 (HZ.out i j hin hjc).2).more hB3
                  rw [show valR (R i j) = M i j by rw [HM.out]] at q1
                  have hrw := HROW.out i hin j hjc
                  rw [← hrw] at r0
                  have q2 := RdS.canQ (q := M i j) r0 ((HSM.out i j hin hjc).more hB3)
                  have K1 := Lib.hid (fun W (hb : Below wr.heap.size wr W) => (by
                    have := cmpQ (q2.below hb) (q1.below hb) HG.out (by omega)
                    rw [Rat.sub_self, show sgnQ 0 = 0 from rfl] at this
                    exact this : Calls Tryd.prog 28 #[rv s0 A3 n3 c3' B3 m3 d3, rv s1 A1 n1 c1 B1 m1 d1] W fun e w' => e = .returned (.int .i64 0) ∧ Below W.heap.size W w'))
                  have hj0 : (0 : Int) ≤ (j : Int) := by omega
                  have hj1 : (j : Int) < (c : Int) := by omega
                  clear q1 q2 f0 f1 f2 r0 r1 own tc hrw
                  go_wp2
                  go_region_held3 (fun W => W.cell? ⟨ax, ox + j * 3, none⟩ = some (.bool s1) ∧ W.cell? ⟨ax, ox + j * 3 + 1, none⟩ = some (.slice A1 n1 c1) ∧ W.cell? ⟨ax, ox + j * 3 + 2, none⟩ = some (.slice B1 m1 d1) ∧ W.cell? ⟨wq.heap.size, 0, none⟩ = some (.bool s0) ∧ W.cell? ⟨wq.heap.size, 1, none⟩ = some (.slice A3 n3 c3') ∧ W.cell? ⟨wq.heap.size, 2, none⟩ = some (.slice B3 m3 d3)) (go_keep)
                    (first | (go_at_call 28; (with_reducible refine (K1.out _ (by (skip); repeat' (first | (with_reducible exact Below.refl _ _) | (with_reducible assumption) | (with_reducible refine Below.alloc ?_ ?_ _) | (with_reducible refine Below.drew ?_) | (with_reducible refine below_drewN ?_ _) | (with_reducible refine Below.setCell ?_ ?_ _) | (with_reducible refine Below.trans ?_ (Below.mono (by with_reducible assumption) ?_)) | omega | (simp only [World.size_alloc, World.size_setCell, World.size_drew, size_drewN']; omega) | go_size))).mono ?_); rintro e w5 ⟨rfl, hb7⟩; have hb7z := Below.size hb7; (try simp only [World.size_alloc, World.size_setCell, World.size_drew] at hb7z); have hb7c0 := fun o => below_at hb7 (ax) o (by first | omega | (simp only [World.size_alloc, World.size_setCell, World.size_drew]; omega)); have hb7f0 := fun o => below_fr hb7 (ax) o (by first | omega | (simp only [World.size_alloc, World.size_setCell, World.size_drew]; omega)); have hb7l0 : ax < (w5).heap.size := (by omega); have hb7c1 := fun o => below_at hb7 (wq.heap.size) o (by first | omega | (simp only [World.size_alloc, World.size_setCell, World.size_drew]; omega)); have hb7f1 := fun o => below_fr hb7 (wq.heap.size) o (by first | omega | (simp only [World.size_alloc, World.size_setCell, World.size_drew]; omega)); have hb7l1 : wq.heap.size < (w5).heap.size := (by omega)) | fail)
                  all_goals
                    have hb9 : Below wr.heap.size wr w5 := (by have z0 := Below.size hb7; (try simp only [World.size_alloc, World.size_setCell, World.size_drew, size_drewN'] at z0 ⊢; skip); repeat' (first | (with_reducible exact Below.refl _ _) | (with_reducible assumption) | (with_reducible refine Below.alloc ?_ ?_ _) | (with_reducible refine Below.drew ?_) | (with_reducible refine below_drewN ?_ _) | (with_reducible refine Below.setCell ?_ ?_ _) | (with_reducible refine Below.trans ?_ (Below.mono (by with_reducible assumption) ?_)) | omega | (simp only [World.size_alloc, World.size_setCell, World.size_drew, size_drewN']; omega) | go_size))
                    have hb10 := hb16.trans (hb9.mono (by omega))
                    go_wp2
                    go_roundw
                    case rel => exact ⟨j + 1, by omega, by go_num, hb10⟩
                    case measure => simp [intOf]; omega
            · have : j = c := by omega
              subst this
              go_wp2
              go_roundw
              case rel => exact ⟨i + 1, by omega, by go_num, hb5⟩
              case measure => simp [intOf]; omega
        · have : i = n := by omega
          subst this
          go_wp2
          go_ret
          exact ⟨rfl, hb13.trans (hb4.mono h13)⟩
    · have KC := Lib.hid (check_err (ca := ca) (HA.out.at_below hb12) (by have := HS.out.le.1; omega) (fun i hi => by have := HS.out.le.2 i hi; omega) rfl hc)
      generalize codeM n len = c at *
      clear HS HA
      go_wp2_with (first | (go_at_call 24; (with_reducible refine (KC.out).mono ?_); rintro e _ ⟨rfl, rfl⟩) | (go_at_call 11; (with_reducible refine (awake_any _).mono ?_); rintro e w3 ⟨rfl, hb3⟩; have hb3z := Below.size hb3; (try simp only [World.size_alloc, World.size_setCell, World.size_drew] at hb3z)) | fail)
      have hb13 := hb12.trans (hb3.mono hb12.size)
      go_ret
      exact ⟨rfl, hb13⟩
end Go.Proofs.YtnljncncnohncaaDoor
