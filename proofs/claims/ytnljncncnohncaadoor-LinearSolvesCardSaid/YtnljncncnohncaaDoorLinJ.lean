/- Contracts of functions and lemmas, used by the proofs of the given statements. No condition beyond those that each lemma names. -/
import Derived.Test.YtnljncncnohncaaDoorLinI
import Derived.Test.YtnljncncnohncaaDoorJLinP
namespace Go.Proofs.YtnljncncnohncaaDoor
open Go.RowKit
set_option linter.unusedSimpArgs false
set_option linter.unusedVariables false
set_option maxRecDepth 20000
attribute [local irreducible] nv wp win plainB validR valR canR
/-! ## package linear: Mul -/
def RetMM (b0 n p : Nat) (F : Mf) (e : Ending) (w' : World) : Prop := ∃ o co, e = .returned (.tuple #[.slice (some ⟨o, 0, none⟩) n co, .nilIface]) ∧ MatG w' b0 o co n (fun _ => p) F
set_option maxHeartbeats 4000000 in
theorem mulM_any {w : World} {n l p ca cb L : Nat} {A B : Option Addr} {len len' : Nat → Nat} {R R' : Nat → Nat → Rw} (h : MatI w w.heap.size A n len R) (hB : MatI w w.heap.size B l len' R') (hcode : codeM n len = 0) (hcode' : codeM l len' = 0) (hc : len 0 = l) (hc' : len' 0 = p)
    (hz : ∀ i k, i < n → k < l → (R i k).2.1.length ≤ L ∧ (R i k).2.2.length ≤ L) (hok : ∀ i k, i < n → k < l → okR (R i k)) (hz' : ∀ i k, i < l → k < p → (R' i k).2.1.length ≤ L ∧ (R' i k).2.2.length ≤ L) (hok' : ∀ i k, i < l → k < p → okR (R' i k)) (hL : 1 ≤ L) (hL2 : L ≤ 1000000) :
    Calls Tryd.prog 29 #[.slice A n ca, .slice B l cb] w fun e w' => RetMM w.heap.size n p (mulF (fun i k => valR (R i k)) (fun i k => valR (R' i k)) l) e w' ∧ Below w.heap.size w w' := by
  obtain ⟨hn0, hl0, hn, hl, hall⟩ := codeM_zero hcode
  obtain ⟨hn0', hl0', hn', hl', hall'⟩ := codeM_zero hcode'
  obtain ⟨M, hM⟩ : ∃ M : Mf, M = fun i k => valR (R i k) := ⟨_, rfl⟩
  obtain ⟨N, hN⟩ : ∃ N : Mf, N = fun i k => valR (R' i k) := ⟨_, rfl⟩
  have HSM := Lib.hid (fun i k (hi : i < n) (hk : k < l) => (by rw [hM]; exact Sz_valR (hok i k hi hk) hL (hz i k hi hk).1 (hz i k hi hk).2 : Sz L (M i k)))
  have HSN := Lib.hid (fun i k (hi : i < l) (hk : k < p) => (by rw [hN]; exact Sz_valR (hok' i k hi hk) hL (hz' i k hi hk).1 (hz' i k hi hk).2 : Sz L (N i k)))
  have HZ := Lib.hid hz
  have HZ' := Lib.hid hz'
  have HL := Lib.hid (fun i hi => (hall i hi).trans hc)
  have HL' := Lib.hid (fun i hi => (hall' i hi).trans hc')
  have HM := Lib.hid hM
  have HN := Lib.hid hN
  have HA := Lib.hid h
  have HB := Lib.hid hB
  have hl2 : l ≤ 256 := by omega
  have hp2 : p ≤ 256 := by omega
  have hp0 : 0 < p := by omega
  obtain ⟨ba, offa, A0, c0, rfl, hc0, hrows⟩ := h.at0 hn0
  obtain ⟨bb, offb, B0, d0, rfl, hd0, hrows'⟩ := hB.at0 hn0'
  rw [hc] at hc0
  rw [hc'] at hd0
  have hba := lt_of_cell hc0
  have hbb := lt_of_cell hd0
  have K0 := Lib.hid (check_any (ca := ca) h (by omega) (fun i hi => by rw [hall i hi]; omega))
  have K1 := Lib.hid (check_any (ca := cb) hB (by omega) (fun i hi => by rw [hall' i hi]; omega))
  rw [hcode, errM_0] at K0
  rw [hcode', errM_0] at K1
  rw [← hM, ← hN]
  clear hz hz' hok hok' hM hN h hB hcode hcode' hrows hrows' hall hall' hc hc'
  obtain ⟨F, hF⟩ : ∃ F, F = mulF M N l := ⟨_, rfl⟩
  rw [← hF]
  have HF := Lib.hid (fun i k => (by rw [hF]; rfl : F i k = dotS (M i) (fun t => N t k) l))
  clear hF
  go_enter Tryd.func29, Tryd.ntmps29
  go_wp2_with (first | (go_at_call 24; (with_reducible refine (K0.out).mono ?_); rintro e _ ⟨rfl, rfl⟩) | (go_at_call 24; (with_reducible refine (K1.out).mono ?_); rintro e _ ⟨rfl, rfl⟩) | (at_make; refine wpList_makeM rfl (.tmp 31) (.tmp 31) rfl w.heap.size n F (n : Int) (n : Int) (by simp [Act.eval]) (by simp [Act.eval]) rfl rfl (by omega) (Nat.le_refl _) ?_; intro w1 own1 hb1) | fail)
  clear K0 K1
  go_loopw [35] (fun i wr => ∃ k : Nat, k ≤ n ∧ i = .int .i64 k ∧ MatG wr w.heap.size w.heap.size n n (fun j => if j < k then p else 0) F ∧ Below w.heap.size w wr) (fun i _ => n - (intOf i).toNat)
  case atStart => exact ⟨0, Nat.zero_le _, rfl, own1.congr (fun i _ => by simp) (fun i k _ hk => rfl), hb1⟩
  case round =>
    obtain ⟨i, hi, rfl, own, hb⟩ := hrel
    have hbz := hb.size
    by_cases hlt : i < n
    · have hd1 : wr.cell? ⟨bb, offb, none⟩ = some (.slice B0 p d0) := (hb.cell hbb).trans hd0
      obtain ⟨A9, c9, hX⟩ := own.row i
      have hcell := hX.cell hlt
      have hfz := own.frozen
      have holt := own.lt
      simp only [Nat.lt_irrefl, if_false] at hcell
      have HX := Lib.hid hX
      clear hX
      obtain ⟨wq, hwq⟩ : ∃ wq, wq = wr := ⟨_, rfl⟩
      subst hwq
      go_wp2_with (first | (at_make; refine wpList_makeR rfl (.tmp 43) (.tmp 43) rfl w.heap.size p (p : Int) (p : Int) (by simp [Act.eval]) (by simp [Act.eval]) rfl rfl (by omega) (by omega) ?_; intro w5 own5 hb5; have hcell5 := (hb5.cell holt).trans hcell; have hfz5 := fun o => (below_fr hb5 (w.heap.size) o holt); have hd5 := (hb5.cell (Nat.lt_of_lt_of_le hbb hbz)).trans hd1) | fail)
      have hp := HX.out.put' hlt (grown_of_below hb5 (Value.slice A9 0 c9).ownBlock) own5 (.inr (Nat.le_refl _)) hbz
      have hp1 := hp.1.congr (len' := fun j => if j < i + 1 then p else 0) (M' := upd F i (fun c => if c < 0 then F i c else 0)) (fun j hj => by
        unfold upd
        by_cases e : j = i
        · subst e; simp
        · by_cases e2 : j < i
          · simp [e, e2, show j < i + 1 by omega]
          · simp [e, e2, show ¬ j < i + 1 by omega]) (fun j k hj hk => by unfold upd; by_cases e : j = i <;> simp [e])
      have hpb := hb.trans hp.2.2
      clear hp own own5 hcell hcell5 hfz hfz5 holt hd1 hd5 HX
      go_loopw [50] (fun c wr => ∃ k : Nat, k ≤ p ∧ c = .int .i64 k ∧ MatG wr w.heap.size w.heap.size n n (fun j => if j < i + 1 then p else 0) (upd F i (fun c => if c < k then F i c else 0)) ∧ Below w.heap.size w wr) (fun c _ => p - (intOf c).toNat)
      case atStart => exact ⟨0, Nat.zero_le _, rfl, hp1, hpb⟩
      case round =>
        obtain ⟨k, hk, rfl, own2, hb2⟩ := hrel
        by_cases hlt2 : k < p
        · go_wp2
          go_loopw [55] (fun c wr => ∃ j : Nat, j ≤ l ∧ c = .int .i64 j ∧ MatG wr w.heap.size w.heap.size n n (fun j => if j < i + 1 then p else 0) (upd F i (fun c => if c < k then F i c else if c = k then dotS (M i) (fun t => N t k) j else 0)) ∧ Below w.heap.size w wr) (fun c _ => l - (intOf c).toNat)
          case atStart => exact ⟨0, Nat.zero_le _, rfl, own2.congr (fun j _ => rfl) (fun j c _ _ => by unfold upd; by_cases e : j = i <;> simp [e, dotS]), hb2⟩
          case round =>
            obtain ⟨j, hj, rfl, own3, hb3⟩ := hrel
            have hb3z := hb3.size
            by_cases hlt3 : j < l
            · obtain ⟨x1, x2, Ai, ci, e1, _, ha0, hlc, hrow⟩ := HA.out.at_ hlt
              obtain ⟨rfl, rfl⟩ : x1 = ba ∧ x2 = offa := by injection e1 with e1; injection e1 with e1 e2; exact ⟨e1.symm, e2.symm⟩
              obtain ⟨y1, y2, Bj, dj, e2, _, hb0, hld, hrow'⟩ := HB.out.at_ hlt3
              obtain ⟨rfl, rfl⟩ : y1 = bb ∧ y2 = offb := by injection e2 with e2; injection e2 with e2 e3; exact ⟨e2.symm, e3.symm⟩
              rw [HL.out i hlt] at ha0 hlc hrow
              rw [HL'.out j hlt3] at hb0 hld hrow'
              obtain ⟨ax, ox, s1, A1, n1, c1, B1, m1, d1, rfl, hax, f0, f1, f2, r1⟩ := hrow.ra.at_ hlt3
              obtain ⟨bx, py, s2, A2, n2, c2, B2, m2, d2, rfl, hbx, g0, g1, g2, r2⟩ := hrow'.ra.at_ hlt2
              have kp2 : Kp w.heap.size w wr := Kp.of_below hb3
              have tc : ∀ {b o : Nat} {v : Value}, w.cell? ⟨b, o, none⟩ = some v → wr.cell? ⟨b, o, none⟩ = some v := fun h => (hb3.cell (lt_of_cell h)).trans h
              have ha1 := tc ha0
              have hb1' := tc hb0
              have hf0 := tc f0
              have hf1 := tc f1
              have hf2 := tc f2
              have hg0 := tc g0
              have hg1 := tc g1
              have hg2 := tc g2
              have q1 := (r1.kp kp2).rdq (HZ.out i j hlt hlt3).1 (HZ.out i j hlt hlt3).2
              have q2 := (r2.kp kp2).rdq (HZ'.out j k hlt3 hlt2).1 (HZ'.out j k hlt3 hlt2).2
              have eM : valR (R i j) = M i j := by rw [HM.out]
              have eN : valR (R' j k) = N j k := by rw [HN.out]
              rw [eM] at q1
              rw [eN] at q2
              obtain ⟨A9, c9, hX⟩ := own3.row i
              obtain ⟨g, rfl⟩ := hX.head hlt (by simp; omega)
              have hcell := hX.cell hlt
              have hown := hX.own hlt
              have hne : g ≠ w.heap.size := hX.ne hlt rfl
              simp only [Nat.lt_succ_self, if_true] at hcell hown
              obtain ⟨s0, A3, n3, c3', B3, m3, d3, o0, o1, o2, r0⟩ := hown.at_ hlt2
              have e0 : can (upd F i (fun c => if c < k then F i c else if c = k then dotS (M i) (fun t => N t k) j else 0) i) k = canR (dotS (M i) (fun t => N t k) j) := by rw [upd_same]; unfold can; simp
              rw [e0] at r0
              have sp := (HSM.out i j hlt hlt3).mul (HSN.out j k hlt3 hlt2) hL
              have sd := dotS_sz (x := M i) (y := fun t => N t k) hL (fun t ht => HSM.out i t hlt ht) (fun t ht => HSN.out t k ht hlt2) j (by omega)
              obtain ⟨D, hD⟩ : ∃ D, D = j * (2 * L + 1) + 1 + (L + L) := ⟨_, rfl⟩
              have hDb : D ≤ 1000000000 := by
                have : j * (2 * L + 1) ≤ 256 * (2 * L + 1) := Nat.mul_le_mul_right _ (by omega)
                omega
              have qd := r0.canQ (sd.more (show _ ≤ D by omega))
              have K1 := Lib.hid (fun W (hb : Below wr.heap.size wr W) => mulQ (q1.below hb) (q2.below hb) hL (by omega))
              have K2 := Lib.hid (fun W base v1 (hb : Below wr.heap.size wr W) (hv : OwQ W base v1 (M i j * N j k)) => addQ (qd.below hb) (hv.rq (sp.more (show _ ≤ D by omega))) (by omega) (by omega))
              have hfz := hown.frozen
              have hgl := hown.lt
              have hgb := hown.block.1
              have hol := own3.lt
              have HO := Lib.hid hown
              have HX := Lib.hid hX
              clear q1 q2 eM eN e0 sp sd hD qd f0 f1 f2 g0 g1 g2 r0 r1 r2 own3 tc hX hown ha0 hb0 hrow hrow' e1 e2
              have ne1 : ¬ (ax = g) := by omega
              have ne2 : ¬ (bx = g) := by omega
              have ne3 : ¬ (x1 = g) := by omega
              have ne4 : ¬ (y1 = g) := by omega
              have ne5 : ¬ (w.heap.size = g) := by omega
              have ne6 : ¬ (g = ax) := by omega
              have ne7 : ¬ (g = bx) := by omega
              have ne8 : ¬ (g = x1) := by omega
              have ne9 : ¬ (g = y1) := by omega
              have hi0 : (0 : Int) ≤ (i : Int) := by omega
              have hi1 : (i : Int) < (n : Int) := by omega
              have hj0 : (0 : Int) ≤ (j : Int) := by omega
              have hj1 : (j : Int) < (l : Int) := by omega
              have hk0 : (0 : Int) ≤ (k : Int) := by omega
              have hk1 : (k : Int) < (p : Int) := by omega
              go_wp2
              rw [ld_later 37 (.tmp 68)]
              go_region_held3 (fun W => W.cell? ⟨w.heap.size, i, none⟩ = some (.slice (some ⟨g, 0, none⟩) p c9) ∧ W.cell? ⟨x1, x2 + i, none⟩ = some (.slice (some ⟨ax, ox, none⟩) l ci) ∧ W.cell? ⟨y1, y2 + j, none⟩ = some (.slice (some ⟨bx, py, none⟩) p dj) ∧ W.cell? ⟨ax, ox + j * 3, none⟩ = some (.bool s1) ∧ W.cell? ⟨ax, ox + j * 3 + 1, none⟩ = some (.slice A1 n1 c1) ∧ W.cell? ⟨ax, ox + j * 3 + 2, none⟩ = some (.slice B1 m1 d1) ∧ W.cell? ⟨bx, py + k * 3, none⟩ = some (.bool s2) ∧ W.cell? ⟨bx, py + k * 3 + 1, none⟩ = some (.slice A2 n2 c2) ∧ W.cell? ⟨bx, py + k * 3 + 2, none⟩ = some (.slice B2 m2 d2)) (go_keep)
                (first | ((go_at_call 27; (with_reducible refine (K1.out _ (by (skip); repeat' (first | (with_reducible exact Below.refl _ _) | (with_reducible assumption) | (with_reducible refine Below.alloc ?_ ?_ _) | (with_reducible refine Below.drew ?_) | (with_reducible refine below_drewN ?_ _) | (with_reducible refine Below.setCell ?_ ?_ _) | (with_reducible refine Below.trans ?_ (Below.mono (by with_reducible assumption) ?_)) | omega | (simp only [World.size_alloc, World.size_setCell, World.size_drew, size_drewN']; omega) | go_size))).mono ?_); rintro e w3 ⟨⟨v3, rfl, own3⟩, hb4⟩; have hb4z := Below.size hb4; (try simp only [World.size_alloc, World.size_setCell, World.size_drew] at hb4z); have hb4c0 := fun o => below_at hb4 (w.heap.size) o (by first | omega | (simp only [World.size_alloc, World.size_setCell, World.size_drew]; omega)); have hb4f0 := fun o => below_fr hb4 (w.heap.size) o (by first | omega | (simp only [World.size_alloc, World.size_setCell, World.size_drew]; omega)); have hb4l0 : w.heap.size < (w3).heap.size := (by omega); have hb4c1 := fun o => below_at hb4 (g) o (by first | omega | (simp only [World.size_alloc, World.size_setCell, World.size_drew]; omega)); have hb4f1 := fun o => below_fr hb4 (g) o (by first | omega | (simp only [World.size_alloc, World.size_setCell, World.size_drew]; omega)); have hb4l1 : g < (w3).heap.size := (by omega); have hb4c2 := fun o => below_at hb4 (x1) o (by first | omega | (simp only [World.size_alloc, World.size_setCell, World.size_drew]; omega)); have hb4f2 := fun o => below_fr hb4 (x1) o (by first | omega | (simp only [World.size_alloc, World.size_setCell, World.size_drew]; omega)); have hb4l2 : x1 < (w3).heap.size := (by omega); have hb4c3 := fun o => below_at hb4 (y1) o (by first | omega | (simp only [World.size_alloc, World.size_setCell, World.size_drew]; omega)); have hb4f3 := fun o => below_fr hb4 (y1) o (by first | omega | (simp only [World.size_alloc, World.size_setCell, World.size_drew]; omega)); have hb4l3 : y1 < (w3).heap.size := (by omega); have hb4c4 := fun o => below_at hb4 (ax) o (by first | omega | (simp only [World.size_alloc, World.size_setCell, World.size_drew]; omega)); have hb4f4 := fun o => below_fr hb4 (ax) o (by first | omega | (simp only [World.size_alloc, World.size_setCell, World.size_drew]; omega)); have hb4l4 : ax < (w3).heap.size := (by omega); have hb4c5 := fun o => below_at hb4 (bx) o (by first | omega | (simp only [World.size_alloc, World.size_setCell, World.size_drew]; omega)); have hb4f5 := fun o => below_fr hb4 (bx) o (by first | omega | (simp only [World.size_alloc, World.size_setCell, World.size_drew]; omega)); have hb4l5 : bx < (w3).heap.size := (by omega)); obtain ⟨s3, A4, n4, c4, B4, m4, d4, rfl⟩ := own3.form) | ((go_at_call 26; (with_reducible refine (K2.out _ _ _ (by have z0 := Below.size hb4; (try simp only [World.size_alloc, World.size_setCell, World.size_drew, size_drewN'] at z0 ⊢; skip); repeat' (first | (with_reducible exact Below.refl _ _) | (with_reducible assumption) | (with_reducible refine Below.alloc ?_ ?_ _) | (with_reducible refine Below.drew ?_) | (with_reducible refine below_drewN ?_ _) | (with_reducible refine Below.setCell ?_ ?_ _) | (with_reducible refine Below.trans ?_ (Below.mono (by with_reducible assumption) ?_)) | omega | (simp only [World.size_alloc, World.size_setCell, World.size_drew, size_drewN']; omega) | go_size)) own3).mono ?_); rintro e w4 ⟨⟨v4, rfl, own4⟩, hb6⟩; have hb6z := Below.size hb6; (try simp only [World.size_alloc, World.size_setCell, World.size_drew] at hb6z); have hb6c0 := fun o => below_at hb6 (w.heap.size) o (by first | omega | (simp only [World.size_alloc, World.size_setCell, World.size_drew]; omega)); have hb6f0 := fun o => below_fr hb6 (w.heap.size) o (by first | omega | (simp only [World.size_alloc, World.size_setCell, World.size_drew]; omega)); have hb6l0 : w.heap.size < (w4).heap.size := (by omega); have hb6c1 := fun o => below_at hb6 (g) o (by first | omega | (simp only [World.size_alloc, World.size_setCell, World.size_drew]; omega)); have hb6f1 := fun o => below_fr hb6 (g) o (by first | omega | (simp only [World.size_alloc, World.size_setCell, World.size_drew]; omega)); have hb6l1 : g < (w4).heap.size := (by omega); have hb6c2 := fun o => below_at hb6 (x1) o (by first | omega | (simp only [World.size_alloc, World.size_setCell, World.size_drew]; omega)); have hb6f2 := fun o => below_fr hb6 (x1) o (by first | omega | (simp only [World.size_alloc, World.size_setCell, World.size_drew]; omega)); have hb6l2 : x1 < (w4).heap.size := (by omega); have hb6c3 := fun o => below_at hb6 (y1) o (by first | omega | (simp only [World.size_alloc, World.size_setCell, World.size_drew]; omega)); have hb6f3 := fun o => below_fr hb6 (y1) o (by first | omega | (simp only [World.size_alloc, World.size_setCell, World.size_drew]; omega)); have hb6l3 : y1 < (w4).heap.size := (by omega); have hb6c4 := fun o => below_at hb6 (ax) o (by first | omega | (simp only [World.size_alloc, World.size_setCell, World.size_drew]; omega)); have hb6f4 := fun o => below_fr hb6 (ax) o (by first | omega | (simp only [World.size_alloc, World.size_setCell, World.size_drew]; omega)); have hb6l4 : ax < (w4).heap.size := (by omega); have hb6c5 := fun o => below_at hb6 (bx) o (by first | omega | (simp only [World.size_alloc, World.size_setCell, World.size_drew]; omega)); have hb6f5 := fun o => below_fr hb6 (bx) o (by first | omega | (simp only [World.size_alloc, World.size_setCell, World.size_drew]; omega)); have hb6l5 : bx < (w4).heap.size := (by omega)); obtain ⟨s4, A5, n5, c5, B5, m5, d5, rfl⟩ := own4.form) | fail)
              all_goals
                have hb9 : Below wr.heap.size wr w4 := (by have z0 := Below.size hb4; have z1 := Below.size hb6; (try simp only [World.size_alloc, World.size_setCell, World.size_drew, size_drewN'] at z0 z1 ⊢; skip); repeat' (first | (with_reducible exact Below.refl _ _) | (with_reducible assumption) | (with_reducible refine Below.alloc ?_ ?_ _) | (with_reducible refine Below.drew ?_) | (with_reducible refine below_drewN ?_ _) | (with_reducible refine Below.setCell ?_ ?_ _) | (with_reducible refine Below.trans ?_ (Below.mono (by with_reducible assumption) ?_)) | omega | (simp only [World.size_alloc, World.size_setCell, World.size_drew, size_drewN']; omega) | go_size))
                have hs := (HX.out.below hb9).same hlt (((HO.out.below hb9).set hlt2 (own4.rs (b0 := w.heap.size))).2) (f' := fun c => if c < k then F i c else if c = k then dotS (M i) (fun t => N t k) (j + 1) else 0) (by
                  simp only [Nat.lt_succ_self, if_true]
                  refine ((HO.out.below hb9).set hlt2 (own4.rs (b0 := w.heap.size))).1.congr fun c _ => ?_
                  rw [upd_same, upd_can]
                  unfold can upd
                  by_cases e : c = k
                  · subst e; simp [dotS]
                  · simp [e]) (by have := hb9.size; omega)
                have hb10 := hb3.trans ((hb9.mono hb3z).trans hs.2.2)
                have o5 := hs.1.mg.congr (len' := fun j => if j < i + 1 then p else 0) (M' := upd F i (fun c => if c < k then F i c else if c = k then dotS (M i) (fun t => N t k) (j + 1) else 0)) (fun _ _ => rfl) (fun a c _ _ => by unfold upd; by_cases e : a = i <;> simp [e])
                go_wp2
                go_roundw
                case rel => exact ⟨j + 1, by omega, by go_num, o5, hb10⟩
                case measure => simp [intOf]; omega
            · have : j = l := by omega
              subst this
              have HE : Hid (∀ c, (if c < k then F i c else if c = k then dotS (M i) (fun t => N t k) j else 0) = if c < k + 1 then F i c else 0) := by
                show ∀ c, _
                intro c
                by_cases e : c = k
                · subst e; simp [HF.out]
                · by_cases e2 : c < k
                  · simp [e2, show c < k + 1 by omega]
                  · simp [e, e2, show ¬ c < k + 1 by omega]
              have o4 := own3.congr (len' := fun j => if j < i + 1 then p else 0) (M' := upd F i (fun c => if c < k + 1 then F i c else 0)) (fun _ _ => rfl) (fun a c _ _ => by unfold upd; by_cases e : a = i <;> simp [e, HE.out])
              go_wp2
              go_roundw
              case rel => exact ⟨k + 1, by omega, by go_num, o4, hb3⟩
              case measure => simp [intOf]; omega
        · have : k = p := by omega
          subst this
          have o4 := own2.congr (len' := fun j => if j < i + 1 then k else 0) (M' := F) (fun _ _ => rfl) (fun a c _ hc => by
            unfold upd
            by_cases e : a = i
            · subst e
              simp at hc
              simp [hc]
            · simp [e])
          go_wp2
          go_roundw
          case rel => exact ⟨i + 1, by omega, by go_num, o4, hb2⟩
          case measure => simp [intOf]; omega
    · have : i = n := by omega
      subst this
      go_wp2
      go_ret2
      exact ⟨⟨_, _, rfl, own.congr (fun j hj => by simp [hj]) fun _ _ _ _ => rfl⟩, hb⟩
end Go.Proofs.YtnljncncnohncaaDoor
