/- Contracts of functions and lemmas, used by the proofs of the given statements. No condition beyond those that each lemma names. -/
import Derived.Test.YtnljncncnohncaaDoorLinH
namespace Go.Proofs.YtnljncncnohncaaDoor
open Go.RowKit
set_option linter.unusedSimpArgs false
set_option linter.unusedVariables false
set_option maxRecDepth 20000
attribute [local irreducible] nv wp win plainB validR valR canR
/-! ## package linear: Apply -/
theorem dotS_sz {x y : Nat → Rat} {L m : Nat} (hL : 1 ≤ L) (hx : ∀ k, k < m → Sz L (x k)) (hy : ∀ k, k < m → Sz L (y k)) : ∀ k, k ≤ m → Sz (k * (2 * L + 1) + 1) (dotS x y k)
  | 0, _ => Sz.zero (by omega)
  | k + 1, h => by
    have h1 := (dotS_sz hL hx hy k (by omega)).add ((hx k (by omega)).mul (hy k (by omega)) hL)
    exact h1.more (by rw [Nat.add_mul]; omega)
theorem dotS_round {M : Nat → Nat → Rat} {y : Nat → Rat} {m i k : Nat} : ∀ j, upd (can fun j => if j < i then dotS (M j) y m else if j = i then dotS (M i) y k else 0) i (canR (dotS (M i) y k + M i k * y k)) j = can (fun j => if j < i then dotS (M j) y m else if j = i then dotS (M i) y (k + 1) else 0) j := by
  intro j
  rw [upd_can]
  unfold can upd
  by_cases h : j = i
  · subst h; simp [dotS]
  · simp [h]
def RetA (b0 n : Nat) (f : Nat → Rat) (e : Ending) (w' : World) : Prop := ∃ A d, e = .returned (.tuple #[.slice A n d, .nilIface]) ∧ OwR w' b0 A d n (can f)
set_option maxHeartbeats 4000000 in
theorem apply_any {w : World} {n m ca cb L : Nat} {A B : Option Addr} {len : Nat → Nat} {R : Nat → Nat → Rw} {Rx : Nat → Rw} (h : MatI w w.heap.size A n len R) (hB : RowI w w.heap.size B m Rx) (hcode : codeM n len = 0) (hc : len 0 = m)
    (hz : ∀ i k, i < n → k < m → (R i k).2.1.length ≤ L ∧ (R i k).2.2.length ≤ L) (hok : ∀ i k, i < n → k < m → okR (R i k)) (hzb : ∀ i, i < m → (Rx i).2.1.length ≤ L ∧ (Rx i).2.2.length ≤ L) (hokb : ∀ i, i < m → okR (Rx i)) (hL : 1 ≤ L) (hL2 : L ≤ 1000000) :
    Calls Tryd.prog 34 #[.slice A n ca, .slice B m cb] w fun e w' => RetA w.heap.size n (fun i => dotS (fun k => valR (R i k)) (fun k => valR (Rx k)) m) e w' ∧ Below w.heap.size w w' := by
  obtain ⟨hn0, hl0, hn, hl, hall⟩ := codeM_zero hcode
  obtain ⟨M, hM⟩ : ∃ M : Mf, M = fun i k => valR (R i k) := ⟨_, rfl⟩
  obtain ⟨y, hy⟩ : ∃ y : Nat → Rat, y = fun k => valR (Rx k) := ⟨_, rfl⟩
  have hsM : ∀ i k, i < n → k < m → Sz L (M i k) := fun i k hi hk => by rw [hM]; exact Sz_valR (hok i k hi hk) hL (hz i k hi hk).1 (hz i k hi hk).2
  have hsy : ∀ k, k < m → Sz L (y k) := fun k hk => by rw [hy]; exact Sz_valR (hokb k hk) hL (hzb k hk).1 (hzb k hk).2
  have HSM := Lib.hid hsM
  have HSY := Lib.hid hsy
  have HZ := Lib.hid hz
  have HZB := Lib.hid hzb
  have HL := Lib.hid hall
  have HM := Lib.hid hM
  have HY := Lib.hid hy
  have HA := Lib.hid h
  have HB := Lib.hid hB
  have hm : m ≤ 256 := by omega
  obtain ⟨b, off, A0, c0, rfl, hc0, hrows⟩ := h.at0 hn0
  rw [hc] at hc0
  have K0 := Lib.hid (check_any (ca := ca) h (by omega) (fun i hi => by rw [hall i hi]; omega))
  rw [hcode, errM_0] at K0
  have hmv : (fun i => dotS (fun k => valR (R i k)) (fun k => valR (Rx k)) m) = fun i => dotS (M i) y m := by rw [hM, hy]
  rw [hmv]
  clear hmv hsM hsy hz hzb hok hokb hM hy h hB hcode hrows hall
  have HC := Lib.hid hc
  clear hc
  go_enter Tryd.func34, Tryd.ntmps34
  go_wp2_with (first | (go_at_call 24; (with_reducible refine (K0.out).mono ?_); rintro e _ ⟨rfl, rfl⟩) | (at_make; refine wpList_makeR rfl (.tmp 26) (.tmp 26) rfl w.heap.size n (n : Int) (n : Int) (by simp [Act.eval]) (by simp [Act.eval]) rfl rfl (by omega) (Nat.le_refl _) ?_; intro w1 own1 hb1) | fail)
  go_loopw [30] (fun i wr => ∃ k : Nat, k ≤ n ∧ i = .int .i64 k ∧ OwR wr w.heap.size (some ⟨w.heap.size, 0, none⟩) n n (can fun j => if j < k then dotS (M j) y m else 0) ∧ Below w.heap.size w wr) (fun i _ => n - (intOf i).toNat)
  case atStart => exact ⟨0, Nat.zero_le _, rfl, own1.congr (fun i _ => by simp [can]), hb1⟩
  case round =>
    obtain ⟨i, hi, rfl, own, hb⟩ := hrel
    have hbz := hb.size
    by_cases hlt : i < n
    · obtain ⟨b1, off1, Ai, ci, e1, hbb, hcell0, hlc, hrow⟩ := HA.out.at_ hlt
      obtain ⟨rfl, rfl⟩ : b1 = b ∧ off1 = off := by injection e1 with e1; injection e1 with e1 e2; exact ⟨e1.symm, e2.symm⟩
      have hli : len i = m := by rw [HL.out i hlt, HC.out]
      rw [hli] at hcell0 hlc hrow
      have hcell := (hb.cell (lt_of_cell hcell0)).trans hcell0
      have HR := Lib.hid hrow
      clear hcell0 hrow e1 hli
      obtain ⟨wq, hwq⟩ : ∃ wq, wq = wr := ⟨_, rfl⟩
      subst hwq
      go_wp2
      go_loopw [37] (fun j wr => ∃ k : Nat, k ≤ m ∧ j = .int .i64 k ∧ OwR wr w.heap.size (some ⟨w.heap.size, 0, none⟩) n n (can fun j => if j < i then dotS (M j) y m else if j = i then dotS (M i) y k else 0) ∧ Below w.heap.size w wr) (fun j _ => m - (intOf j).toNat)
      case atStart => exact ⟨0, Nat.zero_le _, rfl, own.congr (fun j _ => by unfold can; by_cases e : j = i <;> simp [e, dotS]), hb⟩
      case round =>
        obtain ⟨k, hk, rfl, own2, hb2⟩ := hrel
        have hb2z := hb2.size
        by_cases hlt2 : k < m
        · obtain ⟨b', off', s1, A1, n1, c1, B1, m1, d1, rfl, hbb', f0, f1, f2, r1⟩ := HR.out.ra.at_ hlt2
          obtain ⟨bx, ox, s2, A2, n2, c2, B2, m2, d2, rfl, hbx, g0, g1, g2, r2⟩ := HB.out.ra.at_ hlt2
          have kp2 : Kp w.heap.size w wr := Kp.of_below hb2
          obtain ⟨s0, A3, n3, c3', B3, m3, d3, o0, o1, o2, r0⟩ := own2.at_ hlt
          have tc : ∀ {b o : Nat} {v : Value}, w.cell? ⟨b, o, none⟩ = some v → wr.cell? ⟨b, o, none⟩ = some v := fun h => (hb2.cell (lt_of_cell h)).trans h
          have hf0 := tc f0
          have hf1 := tc f1
          have hf2 := tc f2
          have hg0 := tc g0
          have hg1 := tc g1
          have hg2 := tc g2
          have q1 := (r1.kp kp2).rdq (HZ.out i k hlt hlt2).1 (HZ.out i k hlt hlt2).2
          have q2 := (r2.kp kp2).rdq (HZB.out k hlt2).1 (HZB.out k hlt2).2
          have eM : valR (R i k) = M i k := by rw [HM.out]
          have eY : valR (Rx k) = y k := by rw [HY.out]
          rw [eM] at q1
          rw [eY] at q2
          have e0 : can (fun j => if j < i then dotS (M j) y m else if j = i then dotS (M i) y k else 0) i = canR (dotS (M i) y k) := by unfold can; simp
          rw [e0] at r0
          have sp := (HSM.out i k hlt hlt2).mul (HSY.out k hlt2) hL
          have sd := dotS_sz hL (fun k hk => HSM.out i k hlt hk) (fun k hk => HSY.out k hk) k (by omega)
          obtain ⟨D, hD⟩ : ∃ D, D = k * (2 * L + 1) + 1 + (L + L) := ⟨_, rfl⟩
          have hDb : D ≤ 1000000000 := by
            have : k * (2 * L + 1) ≤ 256 * (2 * L + 1) := Nat.mul_le_mul_right _ (by omega)
            omega
          have qd := r0.canQ (sd.more (show _ ≤ D by omega))
          have K1 := Lib.hid (fun W (hb : Below wr.heap.size wr W) => mulQ (q1.below hb) (q2.below hb) hL (by omega))
          have K2 := Lib.hid (fun W base v1 (hb : Below wr.heap.size wr W) (hv : OwQ W base v1 (M i k * y k)) => addQ (qd.below hb) (hv.rq (sp.more (show _ ≤ D by omega))) (by omega) (by omega))
          have hfz := own2.frozen
          have hgl := own2.lt
          have HO := Lib.hid own2
          have HG := Lib.hid g0
          clear q1 q2 eM eY e0 sp sd hD qd f0 f1 f2 g0 g1 g2 r0 r1 r2 own2 tc
          have ne1 : ¬ (bx = w.heap.size) := by omega
          have ne2 : ¬ (w.heap.size = bx) := by omega
          have ne3 : ¬ (wr.heap.size = w.heap.size) := by omega
          have ne4 : ¬ (w.heap.size = wr.heap.size) := by omega
          have ne5 : ¬ (bx = wr.heap.size) := by omega
          have ne6 : ¬ (wr.heap.size = bx) := by omega
          have hbxl : bx < wr.heap.size := by omega
          (have ooc := fun o i => below_at ((Below.refl wr.heap.size wr).alloc (Nat.le_refl _) o) (w.heap.size) i (by omega)); (have oof := fun o i => below_fr ((Below.refl wr.heap.size wr).alloc (Nat.le_refl _) o) (w.heap.size) i (by omega))
          (have oxc := fun o i => below_at ((Below.refl wr.heap.size wr).alloc (Nat.le_refl _) o) (bx) i (by omega)); (have oxf := fun o i => below_fr ((Below.refl wr.heap.size wr).alloc (Nat.le_refl _) o) (bx) i (by omega))
          go_wp2
          have hi0 : (0 : Int) ≤ (i : Int) := by omega
          have hi1 : (i : Int) < (n : Int) := by omega
          have hk0 : (0 : Int) ≤ (k : Int) := by omega
          have hk1 : (k : Int) < (m : Int) := by omega
          rw [ld_later 37 (.tmp 46)]
          go_region_held3 (fun W => W.cell? ⟨wr.heap.size, 0, none⟩ = some (.bool s1) ∧ W.cell? ⟨wr.heap.size, 1, none⟩ = some (.slice A1 n1 c1) ∧ W.cell? ⟨wr.heap.size, 2, none⟩ = some (.slice B1 m1 d1) ∧ W.cell? ⟨bx, ox + k * 3, none⟩ = some (.bool s2) ∧ W.cell? ⟨bx, ox + k * 3 + 1, none⟩ = some (.slice A2 n2 c2) ∧ W.cell? ⟨bx, ox + k * 3 + 2, none⟩ = some (.slice B2 m2 d2)) (go_keep)
            (first | ((go_at_call 27; (with_reducible refine (K1.out _ (by (skip); repeat' (first | (with_reducible exact Below.refl _ _) | (with_reducible assumption) | (with_reducible refine Below.alloc ?_ ?_ _) | (with_reducible refine Below.drew ?_) | (with_reducible refine below_drewN ?_ _) | (with_reducible refine Below.setCell ?_ ?_ _) | (with_reducible refine Below.trans ?_ (Below.mono (by with_reducible assumption) ?_)) | omega | (simp only [World.size_alloc, World.size_setCell, World.size_drew, size_drewN']; omega) | go_size))).mono ?_); rintro e w3 ⟨⟨v3, rfl, own3⟩, hb3⟩; have hb3z := Below.size hb3; (try simp only [World.size_alloc, World.size_setCell, World.size_drew] at hb3z); have hb3c0 := fun o => below_at hb3 (w.heap.size) o (by first | omega | (simp only [World.size_alloc, World.size_setCell, World.size_drew]; omega)); have hb3f0 := fun o => below_fr hb3 (w.heap.size) o (by first | omega | (simp only [World.size_alloc, World.size_setCell, World.size_drew]; omega)); have hb3l0 : w.heap.size < (w3).heap.size := (by omega); have hb3c1 := fun o => below_at hb3 (wr.heap.size) o (by first | omega | (simp only [World.size_alloc, World.size_setCell, World.size_drew]; omega)); have hb3f1 := fun o => below_fr hb3 (wr.heap.size) o (by first | omega | (simp only [World.size_alloc, World.size_setCell, World.size_drew]; omega)); have hb3l1 : wr.heap.size < (w3).heap.size := (by omega); have hb3c2 := fun o => below_at hb3 (bx) o (by first | omega | (simp only [World.size_alloc, World.size_setCell, World.size_drew]; omega)); have hb3f2 := fun o => below_fr hb3 (bx) o (by first | omega | (simp only [World.size_alloc, World.size_setCell, World.size_drew]; omega)); have hb3l2 : bx < (w3).heap.size := (by omega)); obtain ⟨s3, A4, n4, c4, B4, m4, d4, rfl⟩ := own3.form) | ((go_at_call 26; (with_reducible refine (K2.out _ _ _ (by have z0 := Below.size hb3; (try simp only [World.size_alloc, World.size_setCell, World.size_drew, size_drewN'] at z0 ⊢; skip); repeat' (first | (with_reducible exact Below.refl _ _) | (with_reducible assumption) | (with_reducible refine Below.alloc ?_ ?_ _) | (with_reducible refine Below.drew ?_) | (with_reducible refine below_drewN ?_ _) | (with_reducible refine Below.setCell ?_ ?_ _) | (with_reducible refine Below.trans ?_ (Below.mono (by with_reducible assumption) ?_)) | omega | (simp only [World.size_alloc, World.size_setCell, World.size_drew, size_drewN']; omega) | go_size)) own3).mono ?_); rintro e w4 ⟨⟨v4, rfl, own4⟩, hb4⟩; have hb4z := Below.size hb4; (try simp only [World.size_alloc, World.size_setCell, World.size_drew] at hb4z); have hb4c0 := fun o => below_at hb4 (w.heap.size) o (by first | omega | (simp only [World.size_alloc, World.size_setCell, World.size_drew]; omega)); have hb4f0 := fun o => below_fr hb4 (w.heap.size) o (by first | omega | (simp only [World.size_alloc, World.size_setCell, World.size_drew]; omega)); have hb4l0 : w.heap.size < (w4).heap.size := (by omega); have hb4c1 := fun o => below_at hb4 (wr.heap.size) o (by first | omega | (simp only [World.size_alloc, World.size_setCell, World.size_drew]; omega)); have hb4f1 := fun o => below_fr hb4 (wr.heap.size) o (by first | omega | (simp only [World.size_alloc, World.size_setCell, World.size_drew]; omega)); have hb4l1 : wr.heap.size < (w4).heap.size := (by omega); have hb4c2 := fun o => below_at hb4 (bx) o (by first | omega | (simp only [World.size_alloc, World.size_setCell, World.size_drew]; omega)); have hb4f2 := fun o => below_fr hb4 (bx) o (by first | omega | (simp only [World.size_alloc, World.size_setCell, World.size_drew]; omega)); have hb4l2 : bx < (w4).heap.size := (by omega)); obtain ⟨s4, A5, n5, c5, B5, m5, d5, rfl⟩ := own4.form) | fail)
          all_goals
            have hb9 : Below wr.heap.size wr w4 := (by have z0 := Below.size hb3; have z1 := Below.size hb4; (try simp only [World.size_alloc, World.size_setCell, World.size_drew, size_drewN'] at z0 z1 ⊢; skip); repeat' (first | (with_reducible exact Below.refl _ _) | (with_reducible assumption) | (with_reducible refine Below.alloc ?_ ?_ _) | (with_reducible refine Below.drew ?_) | (with_reducible refine below_drewN ?_ _) | (with_reducible refine Below.setCell ?_ ?_ _) | (with_reducible refine Below.trans ?_ (Below.mono (by with_reducible assumption) ?_)) | omega | (simp only [World.size_alloc, World.size_setCell, World.size_drew, size_drewN']; omega) | go_size))
            have o4 := (HO.out.below hb9).set hlt (own4.rs (b0 := w.heap.size))
            have hb10 := hb2.trans ((hb9.mono hb2z).trans (below_of_row o4.2 (fun q hq => by injection hq with hq; omega) (by have := hb9.size; omega)))
            have o5 := o4.1.congr fun j _ => dotS_round j
            go_wp2
            go_roundw
            case rel => exact ⟨k + 1, by omega, by go_num, o5, hb10⟩
            case measure => simp [intOf]; omega
        · have : k = m := by omega
          subst this
          have HE : Hid (∀ j, j < n → can (fun j => if j < i then dotS (M j) y k else if j = i then dotS (M i) y k else 0) j = can (fun j => if j < i + 1 then dotS (M j) y k else 0) j) := by
            show ∀ j, _
            intro j hj
            unfold can
            by_cases e : j = i
            · subst e; simp
            · by_cases e2 : j < i
              · simp [e2, show j < i + 1 by omega]
              · simp [e, e2, show ¬ j < i + 1 by omega]
          go_wp2
          go_roundw
          case rel => exact ⟨i + 1, by omega, by go_num, own2.congr HE.out, hb2⟩
          case measure => simp [intOf]; omega
    · have : i = n := by omega
      subst this
      have HE : Hid (∀ j, j < i → can (fun j => if j < i then dotS (M j) y m else 0) j = can (fun j => dotS (M j) y m) j) := by
        show ∀ j, _
        intro j hj
        unfold can
        simp [hj]
      go_wp2
      go_ret2
      exact ⟨⟨_, _, rfl, own.congr HE.out⟩, hb⟩
end Go.Proofs.YtnljncncnohncaaDoor
