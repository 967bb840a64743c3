/- Contracts of functions and lemmas, used by the proofs of the given statements. No condition beyond those that each lemma names. -/
import Derived.Test.YtlncafhgmbhocaaGreatDoorJAbQ
import Derived.Test.YtlncafhgmbhocaaGreatDoorLinX
import Derived.Test.YtlncafhgmbhocaaGreatDoorJBase
import Derived.Test.YtlncafhgmbhocaaGreatDoorJLinC
namespace Go.Proofs.YtlncafhgmbhocaaGreatDoor
open Go.RowKit
set_option linter.unusedSimpArgs false
set_option linter.unusedVariables false
set_option maxRecDepth 20000
attribute [local irreducible] nv wp win plainB validR valR canR mvE chkM codeC
/-! ## law51: Machines -/
def mcL : List (Nat × Nat × Nat) := [(0, 1, 1), (0, 2, 1), (1, 0, 5), (1, 3, 1), (2, 0, 5), (2, 3, 1), (3, 1, 5), (3, 2, 5)]
def mcF (k : Nat) : Int := (((mcL.getD k (0, 0, 0)).1 : Nat) : Int)
def mcT (k : Nat) : Int := (((mcL.getD k (0, 0, 0)).2.1 : Nat) : Int)
def mcN (k : Nat) : Nat := (mcL.getD k (0, 0, 0)).2.2
/-- the example -/
def mcC : Chn := ⟨4, 0, 8, mcF, mcT, fun k => canR ((mcN k : Nat) : Rat), 4, fun s => s == 3⟩
def mcTab : Array Value := #[.int .i64 0, .int .i64 1, .int .i64 1, .int .i64 0, .int .i64 2, .int .i64 1, .int .i64 1, .int .i64 0, .int .i64 5, .int .i64 1, .int .i64 3, .int .i64 1, .int .i64 2, .int .i64 0, .int .i64 5, .int .i64 2, .int .i64 3, .int .i64 1, .int .i64 3, .int .i64 1, .int .i64 5, .int .i64 3, .int .i64 2, .int .i64 5]
theorem mcTab_at (k : Nat) (hk : k < 8) : mcTab[k * 3]? = some (.int .i64 (mcF k)) ∧ mcTab[k * 3 + 1]? = some (.int .i64 (mcT k)) ∧ mcTab[k * 3 + 2]? = some (.int .i64 ((mcN k : Nat) : Int)) ∧ mcN k ≤ 5 := by
  rcases (show k = 0 ∨ k = 1 ∨ k = 2 ∨ k = 3 ∨ k = 4 ∨ k = 5 ∨ k = 6 ∨ k = 7 by omega) with rfl | rfl | rfl | rfl | rfl | rfl | rfl | rfl <;> refine ⟨rfl, rfl, rfl, ?_⟩ <;> decide
/-- four blocks that are new -/
theorem alloc4 (w : World) (c0 c1 c2 c3 : Array Value) (t0 t1 t2 t3 : TypeId) : ∃ W, W = (((w.alloc (.cells c0 t0)).alloc (.cells c1 t1)).alloc (.cells c2 t2)).alloc (.cells c3 t3) ∧ Below w.heap.size w W ∧ W.heap.size = w.heap.size + 4
    ∧ (∀ j, W.cell? ⟨w.heap.size, j, none⟩ = c0[j]?) ∧ (∀ j, W.cell? ⟨w.heap.size + 1, j, none⟩ = c1[j]?) ∧ (∀ j, W.cell? ⟨w.heap.size + 2, j, none⟩ = c2[j]?) ∧ (∀ j, W.cell? ⟨w.heap.size + 3, j, none⟩ = c3[j]?)
    ∧ (∀ j, W.frozen? ⟨w.heap.size, j, none⟩ = false) ∧ (∀ j, W.frozen? ⟨w.heap.size + 2, j, none⟩ = false) ∧ TyB t0 W w.heap.size ∧ TyB t2 W (w.heap.size + 2) := by
  obtain ⟨W, hW, hb, hz, k0, k1, k2, f1, f2, y1, y2⟩ := alloc3 w c0 c1 c2 t0 t1 t2
  have h4 := (Below.refl W.heap.size W).alloc (Nat.le_refl _) (.cells c3 t3)
  refine ⟨_, rfl, ?_, ?_, fun j => ?_, fun j => ?_, fun j => ?_, fun j => ?_, fun j => ?_, fun j => ?_, ?_, ?_⟩
  all_goals rw [← hW]
  · exact hb.alloc (by omega) _
  · simp [hz]
  · rw [World.cell?_alloc_past _ _ _ (by omega)]; exact k0 j
  · rw [World.cell?_alloc_past _ _ _ (by omega)]; exact k1 j
  · rw [World.cell?_alloc_past _ _ _ (by omega)]; exact k2 j
  · rw [World.cell?_alloc_at _ _ _ _ (by omega)]
  · rw [World.frozen?_alloc_past _ _ _ (by omega), hW, World.frozen?_alloc_past _ _ _ (by simp; omega), World.frozen?_alloc_past _ _ _ (by simp), World.frozen?_alloc_at _ _ _ _ rfl]
  · rw [World.frozen?_alloc_past _ _ _ (by omega)]; exact f2 j
  · have h0 : TyB t0 (w.alloc (.cells c0 t0)) w.heap.size := TyB.new _ _
    have : TyB t0 W w.heap.size := by
      rw [hW]
      exact (h0.below ((Below.refl _ _).alloc (Nat.le_refl _) _) (by simp)).below ((Below.refl _ _).alloc (Nat.le_refl _) _) (by simp; omega)
    exact this.below h4 (by omega)
  · exact y2.below h4 (by omega)
set_option maxHeartbeats 8000000 in
theorem machines_any (w : World) : Calls Tryz.prog 36 #[] w fun e w' => (∃ AM cm AD cd, e = .returned (cv 4 0 AM 8 cm AD 4 cd) ∧ ChI w' w'.heap.size AM cm AD cd mcC) ∧ Below w.heap.size w w' := by
  have HTb := Lib.hid mcTab_at
  go_enter Tryz.func36, Tryz.ntmps36
  go_wp2
  go_loopw [16] (fun i wr => ∃ (k : Nat) (A : Option Addr) (cp : Nat), k ≤ 8 ∧ i = .int .i64 (k : Int) ∧ OwM wr w.heap.size A cp k mcF mcT (fun k => canR ((mcN k : Nat) : Rat)) ∧ (∀ q, (Value.slice A k cp).ownBlock = some q → w.heap.size + 4 ≤ q)
      ∧ Below w.heap.size w wr ∧ w.heap.size + 4 ≤ wr.heap.size ∧ TyB 25 wr w.heap.size ∧ TyB 25 wr (w.heap.size + 2)
      ∧ (∃ a b d e, wr.cell? ⟨w.heap.size, 0, none⟩ = some a ∧ wr.cell? ⟨w.heap.size, 1, none⟩ = some b ∧ wr.cell? ⟨w.heap.size, 2, none⟩ = some d ∧ wr.cell? ⟨w.heap.size, 3, none⟩ = some e)
      ∧ (∀ j, wr.cell? ⟨w.heap.size + 1, j, none⟩ = (#[.bool false, .bool false, .bool false, .bool true] : Array Value)[j]?)
      ∧ (wr.cell? ⟨w.heap.size + 2, 0, none⟩ = some (.int .i64 4) ∧ wr.cell? ⟨w.heap.size + 2, 1, none⟩ = some (.int .i64 0) ∧ wr.cell? ⟨w.heap.size + 2, 2, none⟩ = some (.slice A k cp) ∧ wr.cell? ⟨w.heap.size + 2, 3, none⟩ = some (.slice (some ⟨w.heap.size + 1, 0, none⟩) 4 4))
      ∧ (∀ j, wr.cell? ⟨w.heap.size + 3, j, none⟩ = mcTab[j]?)
      ∧ (∀ i, wr.frozen? ⟨w.heap.size, i, none⟩ = false) ∧ (∀ i, wr.frozen? ⟨w.heap.size + 2, i, none⟩ = false)) (fun i _ => 8 - (intOf i).toNat)
  case atStart =>
    obtain ⟨W, hW, hb, hz, k0, k1, k2, k3, f0, f2, y0, y2⟩ := alloc4 w #[.int .i64 0, .int .i64 0, .slice none 0 0, .slice none 0 0] #[.bool false, .bool false, .bool false, .bool true] #[.int .i64 4, .int .i64 0, .slice none 0 0, .slice (some ⟨w.heap.size + 1, 0, none⟩) 4 4] mcTab 25 4 25 107
    have hW' := hW
    unfold mcTab at hW'
    rw [← hW']
    exact ⟨0, none, 0, Nat.zero_le _, rfl, OwM.nil_ _ _ _ _ _, (fun q hq => nomatch hq), hb, by omega, y0, y2, ⟨_, _, _, _, k0 0, k0 1, k0 2, k0 3⟩, k1, ⟨k2 0, k2 1, k2 2, k2 3⟩, k3, f0, f2⟩
  case round =>
    obtain ⟨k, A, cp, hk, rfl, ho, hoq, hb, hz, hT0, hT2, ⟨a0, a1, a2, a3, z0, z1, z2, z3⟩, hB4, ⟨x0, x1, x2, x3⟩, hTab, fz0, fz2⟩ := hrel
    by_cases hlt : k < 8
    · obtain ⟨e0, e1, e2, e3⟩ := HTb.out k hlt
      have g0 := (hTab (k * 3)).trans e0
      have g1 := (hTab (k * 3 + 1)).trans e1
      have g2 := (hTab (k * 3 + 2)).trans e2
      obtain ⟨F, hF⟩ : ∃ F, F = mcF k := ⟨_, rfl⟩
      obtain ⟨T, hT⟩ : ∃ T, T = mcT k := ⟨_, rfl⟩
      obtain ⟨N, hN⟩ : ∃ N, N = mcN k := ⟨_, rfl⟩
      rw [← hF] at g0
      rw [← hT] at g1
      rw [← hN] at g2 e3
      have HF := Lib.hid hF
      have HT := Lib.hid hT
      have HN := Lib.hid hN
      have HTab := Lib.hid hTab
      have HB4 := Lib.hid hB4
      have HO := Lib.hid ho
      have HOQ := Lib.hid hoq
      have HB := Lib.hid hb
      have HT0 := Lib.hid hT0
      have HT2 := Lib.hid hT2
      have hki : (k : Int) < 8 := by omega
      have hk0 : (0 : Int) ≤ (k : Int) := by omega
      have KO : Hid (∀ W : World, Calls Tryz.prog 72 #[.int .i64 (N : Int)] W fun e w' => RetQ W.heap.size ((N : Nat) : Rat) e w' ∧ Below W.heap.size W w') := fun W => rofQ N W (by omega)
      clear hF hT hN hTab hB4 ho hoq hb hT0 hT2 e0 e1 e2
      (have oac := fun o i => below_at ((Below.refl wr.heap.size wr).alloc (Nat.le_refl _) o) (w.heap.size) i (by omega)); (have oaf := fun o i => below_fr ((Below.refl wr.heap.size wr).alloc (Nat.le_refl _) o) (w.heap.size) i (by omega))
      (have obc := fun o i => below_at ((Below.refl wr.heap.size wr).alloc (Nat.le_refl _) o) (w.heap.size + 1) i (by omega)); (have obf := fun o i => below_fr ((Below.refl wr.heap.size wr).alloc (Nat.le_refl _) o) (w.heap.size + 1) i (by omega))
      (have occ := fun o i => below_at ((Below.refl wr.heap.size wr).alloc (Nat.le_refl _) o) (w.heap.size + 2) i (by omega)); (have ocf := fun o i => below_fr ((Below.refl wr.heap.size wr).alloc (Nat.le_refl _) o) (w.heap.size + 2) i (by omega))
      (have odc := fun o i => below_at ((Below.refl wr.heap.size wr).alloc (Nat.le_refl _) o) (w.heap.size + 3) i (by omega)); (have odf := fun o i => below_fr ((Below.refl wr.heap.size wr).alloc (Nat.le_refl _) o) (w.heap.size + 3) i (by omega))
      have hN9 : Hid (∀ j, j < w.heap.size + 4 → some j ≠ (Value.slice A k cp).ownBlock) := fun j hj e => absurd (HOQ.out j e.symm) (by omega)
      go_wp2
      obtain ⟨wq, hwq⟩ : ∃ wq, wq = wr.alloc (.cells #[.int .i64 F, .int .i64 T, .int .i64 (N : Int)] 107) := ⟨_, rfl⟩
      rw [← hwq]
      have hal : Below wr.heap.size wr wq := by rw [hwq]; exact (Below.refl _ _).alloc (Nat.le_refl _) _
      have HAL := Lib.hid hal
      have q0 : wq.cell? ⟨wr.heap.size, 0, none⟩ = some (.int .i64 F) := by rw [hwq]; simp
      have q1 : wq.cell? ⟨wr.heap.size, 1, none⟩ = some (.int .i64 T) := by rw [hwq]; simp
      have q2 : wq.cell? ⟨wr.heap.size, 2, none⟩ = some (.int .i64 (N : Int)) := by rw [hwq]; simp
      have hwz : wq.heap.size = wr.heap.size + 1 := by rw [hwq]; simp
      have p2 : wq.cell? ⟨w.heap.size + 1 + 1, 2, none⟩ = some (.slice A k cp) := (hal.cell (p := ⟨w.heap.size + 2, 2, none⟩) (by show w.heap.size + 2 < _; omega)).trans x2
      have HC2 : Hid (∀ W', Below wq.heap.size wq W' → W'.cell? ⟨w.heap.size + 2, 2, none⟩ = some (.slice A k cp)) := fun W' hb' => (hb'.cell (p := ⟨w.heap.size + 2, 2, none⟩) (by show w.heap.size + 2 < _; omega)).trans p2
      have HFr : Hid (∀ W', Below wq.heap.size wq W' → W'.frozen? ⟨w.heap.size + 2, 2, none⟩ = false) := fun W' hb' => (hb'.frozen (p := ⟨w.heap.size + 2, 2, none⟩) (by show w.heap.size + 2 < _; omega)).trans ((hal.frozen (p := ⟨w.heap.size + 2, 2, none⟩) (by show w.heap.size + 2 < _; omega)).trans (fz2 2))
      have HOq := Lib.hid (HO.out.below hal)
      have HM3 : Hid (∀ W', Below wq.heap.size wq W' → W'.cell? ⟨wr.heap.size, 0, none⟩ = some (.int .i64 F) ∧ W'.cell? ⟨wr.heap.size, 1, none⟩ = some (.int .i64 T) ∧ W'.cell? ⟨wr.heap.size, 2, none⟩ = some (.int .i64 (N : Int))) := fun W' hb' => ⟨(hb'.cell (p := ⟨wr.heap.size, 0, none⟩) (by show wr.heap.size < _; omega)).trans q0, (hb'.cell (p := ⟨wr.heap.size, 1, none⟩) (by show wr.heap.size < _; omega)).trans q1, (hb'.cell (p := ⟨wr.heap.size, 2, none⟩) (by show wr.heap.size < _; omega)).trans q2⟩
      have HNq : Hid (some wr.heap.size ≠ (Value.slice A k cp).ownBlock) := fun e => by
        obtain ⟨V, _, h2⟩ := HO.out
        have := (World.ownsRow.lt h2 _ e.symm).2
        omega
      clear hwq hal g0 g1 g2
      have ne1 : ¬ (w.heap.size + 1 + 1 = wr.heap.size) := by omega
      have ne2 : ¬ (w.heap.size + 2 = wr.heap.size) := by omega
      rw [ld_later 22 (.tmp 20)]
      go_region_held3 (fun W => W.cell? ⟨wr.heap.size, 0, none⟩ = some (.int .i64 F) ∧ W.cell? ⟨wr.heap.size, 1, none⟩ = some (.int .i64 T) ∧ W.cell? ⟨wr.heap.size, 2, none⟩ = some (.int .i64 (N : Int))) (go_keep)
        (first | ((go_at_call 72; (with_reducible refine (KO.out _).mono ?_); rintro e w4 ⟨⟨v4, rfl, own4⟩, hb4⟩; have hb4z := Below.size hb4; (try simp only [ZA, ZS, ZD] at hb4z); have hb4c0 := fun o => below_at hb4 (wr.heap.size) o (by first | omega | (simp only [ZA, ZS, ZD]; omega)); have hb4f0 := fun o => below_fr hb4 (wr.heap.size) o (by first | omega | (simp only [ZA, ZS, ZD]; omega)); have hb4l0 : wr.heap.size < (w4).heap.size := (by omega); have hb4c1 := fun o => below_at hb4 (w.heap.size + 1 + 1) o (by first | omega | (simp only [ZA, ZS, ZD]; omega)); have hb4f1 := fun o => below_fr hb4 (w.heap.size + 1 + 1) o (by first | omega | (simp only [ZA, ZS, ZD]; omega)); have hb4l1 : w.heap.size + 1 + 1 < (w4).heap.size := (by omega)); obtain ⟨s4, A4, n4, c4, B4, m4, d4, rfl⟩ := own4.form) | (refine step_appM (by rfl) (.tmp 21) (.tmp 30) (by rfl) w.heap.size A cp k mcF mcT (fun k => canR ((mcN k : Nat) : Rat)) (by rfl) (by exact HOq.out.below (by have z0 := Below.size hb4; (try simp only [ZA, ZS, ZD, ZN] at z0 ⊢; skip); repeat' (first | (with_reducible exact Below.refl _ _) | (with_reducible assumption) | (with_reducible refine Below.alloc ?_ ?_ _) | (with_reducible refine Below.drew ?_) | (with_reducible refine below_drewN ?_ _) | (with_reducible refine Below.setCell ?_ ?_ _) | (with_reducible refine Below.trans ?_ (Below.mono (by with_reducible assumption) ?_)) | omega | (simp only [ZA, ZS, ZD, ZN]; omega) | go_size))) w4.heap.size F T s4 A4 n4 c4 B4 m4 d4 (canR ((N : Nat) : Rat)) (by rfl) (by simp) (by simp) (by simp) (by simp) (by simp) (by exact (own4.alloc _).rs) (by omega) (by simp; omega) ?_; intro g5 c5 w5 own5 hgr5 hfr5 hlt5; (have hx6 : w5.cell? ⟨w.heap.size + 1 + 1, 2, none⟩ = some (.slice A k cp) := (hgr5.cell_far ⟨w.heap.size + 2, 2, none⟩ (by simp; omega) (hN9.out (w.heap.size + 2) (by omega))).trans (HC2.out _ (by have z0 := Below.size hb4; (try simp only [ZA, ZS, ZD, ZN] at z0 ⊢; skip); repeat' (first | (with_reducible exact Below.refl _ _) | (with_reducible assumption) | (with_reducible refine Below.alloc ?_ ?_ _) | (with_reducible refine Below.drew ?_) | (with_reducible refine below_drewN ?_ _) | (with_reducible refine Below.setCell ?_ ?_ _) | (with_reducible refine Below.trans ?_ (Below.mono (by with_reducible assumption) ?_)) | omega | (simp only [ZA, ZS, ZD, ZN]; omega) | go_size)))); (have hy6 : w5.frozen? ⟨w.heap.size + 1 + 1, 2, none⟩ = false := (hgr5.frozen_far ⟨w.heap.size + 2, 2, none⟩ (by simp; omega) (hN9.out (w.heap.size + 2) (by omega))).trans (HFr.out _ (by have z0 := Below.size hb4; (try simp only [ZA, ZS, ZD, ZN] at z0 ⊢; skip); repeat' (first | (with_reducible exact Below.refl _ _) | (with_reducible assumption) | (with_reducible refine Below.alloc ?_ ?_ _) | (with_reducible refine Below.drew ?_) | (with_reducible refine below_drewN ?_ _) | (with_reducible refine Below.setCell ?_ ?_ _) | (with_reducible refine Below.trans ?_ (Below.mono (by with_reducible assumption) ?_)) | omega | (simp only [ZA, ZS, ZD, ZN]; omega) | go_size)))); (have m0 := (hgr5.cell_far ⟨wr.heap.size, 0, none⟩ (by simp; omega) HNq.out).trans (HM3.out _ (by have z0 := Below.size hb4; (try simp only [ZA, ZS, ZD, ZN] at z0 ⊢; skip); repeat' (first | (with_reducible exact Below.refl _ _) | (with_reducible assumption) | (with_reducible refine Below.alloc ?_ ?_ _) | (with_reducible refine Below.drew ?_) | (with_reducible refine below_drewN ?_ _) | (with_reducible refine Below.setCell ?_ ?_ _) | (with_reducible refine Below.trans ?_ (Below.mono (by with_reducible assumption) ?_)) | omega | (simp only [ZA, ZS, ZD, ZN]; omega) | go_size))).1); (have m1 := (hgr5.cell_far ⟨wr.heap.size, 1, none⟩ (by simp; omega) HNq.out).trans (HM3.out _ (by have z0 := Below.size hb4; (try simp only [ZA, ZS, ZD, ZN] at z0 ⊢; skip); repeat' (first | (with_reducible exact Below.refl _ _) | (with_reducible assumption) | (with_reducible refine Below.alloc ?_ ?_ _) | (with_reducible refine Below.drew ?_) | (with_reducible refine below_drewN ?_ _) | (with_reducible refine Below.setCell ?_ ?_ _) | (with_reducible refine Below.trans ?_ (Below.mono (by with_reducible assumption) ?_)) | omega | (simp only [ZA, ZS, ZD, ZN]; omega) | go_size))).2.1); (have m2 := (hgr5.cell_far ⟨wr.heap.size, 2, none⟩ (by simp; omega) HNq.out).trans (HM3.out _ (by have z0 := Below.size hb4; (try simp only [ZA, ZS, ZD, ZN] at z0 ⊢; skip); repeat' (first | (with_reducible exact Below.refl _ _) | (with_reducible assumption) | (with_reducible refine Below.alloc ?_ ?_ _) | (with_reducible refine Below.drew ?_) | (with_reducible refine below_drewN ?_ _) | (with_reducible refine Below.setCell ?_ ?_ _) | (with_reducible refine Below.trans ?_ (Below.mono (by with_reducible assumption) ?_)) | omega | (simp only [ZA, ZS, ZD, ZN]; omega) | go_size))).2.2); (have HZ5 : Hid (∃ W', Below wq.heap.size wq W' ∧ W'.grownBy w5 (Value.slice A k cp).ownBlock) := ⟨_, (by have z0 := Below.size hb4; (try simp only [ZA, ZS, ZD, ZN] at z0 ⊢; skip); repeat' (first | (with_reducible exact Below.refl _ _) | (with_reducible assumption) | (with_reducible refine Below.alloc ?_ ?_ _) | (with_reducible refine Below.drew ?_) | (with_reducible refine below_drewN ?_ _) | (with_reducible refine Below.setCell ?_ ?_ _) | (with_reducible refine Below.trans ?_ (Below.mono (by with_reducible assumption) ?_)) | omega | (simp only [ZA, ZS, ZD, ZN]; omega) | go_size)), hgr5⟩)) | fail)
      all_goals
        obtain ⟨W', hbW, hgW⟩ := HZ5.out
        have hWz := hbW.size
        have h5z := hgW.size
        have hAL := HAL.out
        have hT : ∀ j o, j < w.heap.size + 4 → w5.cell? ⟨j, o, none⟩ = wr.cell? ⟨j, o, none⟩ := fun j o hj => (hgW.cell_far ⟨j, o, none⟩ (by show j < _; omega) (hN9.out j hj)).trans ((hbW.cell (p := ⟨j, o, none⟩) (by show j < _; omega)).trans (hAL.cell (p := ⟨j, o, none⟩) (by show j < _; omega)))
        have hFz : ∀ j o, j < w.heap.size + 4 → w5.frozen? ⟨j, o, none⟩ = wr.frozen? ⟨j, o, none⟩ := fun j o hj => (hgW.frozen_far ⟨j, o, none⟩ (by show j < _; omega) (hN9.out j hj)).trans ((hbW.frozen (p := ⟨j, o, none⟩) (by show j < _; omega)).trans (hAL.frozen (p := ⟨j, o, none⟩) (by show j < _; omega)))
        have hgq : w.heap.size + 4 ≤ g5 := by
          rcases hfr5 with e | e
          · exact HOQ.out _ e
          · have := hWz; simp at e; have h9 := (show wr.heap.size ≤ w4.heap.size by have := hb4z; omega); omega
        have hT0' := ((HT0.out.below hAL (by omega)).below hbW (by omega)).grown hgW (hN9.out w.heap.size (by omega))
        have hT2' := ((HT2.out.below hAL (by omega)).below hbW (by omega)).grown hgW (hN9.out (w.heap.size + 2) (by omega))
        have hb5 : Below w.heap.size w w5 := ((HB.out.trans (hAL.mono (by omega))).trans (hbW.mono (by omega))).trans (below_of_row hgW (fun q hq => by have := HOQ.out q hq; omega) (by omega))
        have own6 := own5.congr (F' := mcF) (T' := mcT) (U := fun k => canR ((mcN k : Nat) : Rat)) fun i hi => by
          by_cases e : i = k
          · rw [e, upd_same, upd_same, upd_same, HF.out, HT.out, HN.out]
            exact ⟨rfl, rfl, rfl⟩
          · rw [upd_ne _ _ e, upd_ne _ _ e, upd_ne _ _ e]
            exact ⟨rfl, rfl, rfl⟩
        have hfar : ∀ j o, j < w.heap.size + 4 → j ≠ w.heap.size + 2 → (w5.setCell ⟨w.heap.size + 1 + 1, 2, none⟩ (.slice (some ⟨g5, 0, none⟩) (k + 1) c5)).cell? ⟨j, o, none⟩ = wr.cell? ⟨j, o, none⟩ := fun j o hj hne => (World.cell?_setCell_far _ _ _ _ (by show w.heap.size + 1 + 1 ≠ j; omega)).trans (hT j o hj)
        have o7 := own6.set1 hT2' (by decide) (by omega) (fun q hq => by have hq : some g5 = some q := hq; injection hq with hq; omega) 2 (.slice (some ⟨g5, 0, none⟩) (k + 1) c5)
        have O7 := Lib.hid o7
        have HFAR := Lib.hid hfar
        have HT' := Lib.hid hT
        have HFz := Lib.hid hFz
        have HT0' := Lib.hid hT0'
        have HT2' := Lib.hid hT2'
        have HB5 := Lib.hid hb5
        clear o7 own6 own5 hfar hT hFz hT0' hT2' hb5 hbW hgW hgr5 hx6 hy6 m0 m1 m2 own4 hb4
        go_wp2
        go_roundw
        case rel =>
          refine ⟨k + 1, some ⟨g5, 0, none⟩, c5, by omega, by go_num, O7.out, ?_, HB5.out.setCell (by show w.heap.size ≤ w.heap.size + 1 + 1; omega) _, by simp; omega, HT0'.out.set _ _ _, HT2'.out.set _ _ _, ⟨a0, a1, a2, a3, ?_, ?_, ?_, ?_⟩, fun j => ?_, ⟨?_, ?_, ?_, ?_⟩, fun j => ?_, fun i => ?_, fun i => ?_⟩
          · intro q hq
            have hq : some g5 = some q := hq
            injection hq with hq
            omega
          · exact (HFAR.out _ _ (by omega) (by omega)).trans z0
          · exact (HFAR.out _ _ (by omega) (by omega)).trans z1
          · exact (HFAR.out _ _ (by omega) (by omega)).trans z2
          · exact (HFAR.out _ _ (by omega) (by omega)).trans z3
          · exact (HFAR.out _ _ (by omega) (by omega)).trans (HB4.out j)
          · rw [setCell_ne (by omega)]; exact (HT'.out (w.heap.size + 2) 0 (by omega)).trans x0
          · rw [setCell_ne (by omega)]; exact (HT'.out (w.heap.size + 2) 1 (by omega)).trans x1
          · exact World.cell?_setCell_same (u := .slice A k cp) _ _ _ ((HT'.out (w.heap.size + 2) 2 (by omega)).trans x2)
          · rw [setCell_ne (by omega)]; exact (HT'.out (w.heap.size + 2) 3 (by omega)).trans x3
          · exact (HFAR.out _ _ (by omega) (by omega)).trans (HTab.out j)
          · rw [World.frozen?_setCell]; exact (HFz.out _ i (by omega)).trans (fz0 i)
          · rw [World.frozen?_setCell]; exact (HFz.out _ i (by omega)).trans (fz2 i)
        case measure => simp [intOf]; omega
    · have hk8 : k = 8 := by omega
      subst hk8
      have mk : ∀ W, OwM W w.heap.size A cp 8 mcF mcT (fun k => canR ((mcN k : Nat) : Rat)) → (∀ j, W.cell? ⟨w.heap.size + 1, j, none⟩ = (#[.bool false, .bool false, .bool false, .bool true] : Array Value)[j]?) → w.heap.size + 4 ≤ W.heap.size → ChI W W.heap.size A cp (some ⟨w.heap.size + 1, 0, none⟩) 4 mcC := by
        intro W ho hB4 hz
        refine ⟨ho.ra.mi (by omega), ⟨rfl, fun _ => ⟨w.heap.size + 1, 0, rfl, by omega, fun j u hu => ?_⟩⟩, fun _ a ha => ?_, ho.cap, by decide⟩
        · rw [Nat.zero_add, hB4 j, ← hu]
          rcases (show j = 0 ∨ j = 1 ∨ j = 2 ∨ j = 3 ∨ 4 ≤ j by omega) with rfl | rfl | rfl | rfl | h
          · rfl
          · rfl
          · rfl
          · rfl
          · rw [List.getElem?_eq_none (by show (bools 4 _).length ≤ j; rw [bools_length]; exact h), Array.getElem?_eq_none (by simpa using h)]
        · injection ha with ha
          subst ha
          show w.heap.size + 1 < _
          omega
      have HMk := Lib.hid mk
      have hb4 := (((hb.setCell (p := ⟨w.heap.size, 0, none⟩) (Nat.le_refl _) (.int .i64 4)).setCell (p := ⟨w.heap.size, 1, none⟩) (Nat.le_refl _) (.int .i64 0)).setCell (p := ⟨w.heap.size, 2, none⟩) (Nat.le_refl _) (.slice A 8 cp)).setCell (p := ⟨w.heap.size, 3, none⟩) (Nat.le_refl _) (.slice (some ⟨w.heap.size + 1, 0, none⟩) 4 4)
      have hq : ∀ q, (Value.slice A 8 cp).ownBlock = some q → q ≠ w.heap.size := fun q hq => by have := hoq q hq; omega
      have o1 := ho.set1 hT0 (by decide) (Nat.le_refl _) hq 0 (.int .i64 4)
      have o2 := o1.set1 (hT0.set _ _ _) (by decide) (Nat.le_refl _) hq 1 (.int .i64 0)
      have o3 := o2.set1 ((hT0.set _ _ _).set _ _ _) (by decide) (Nat.le_refl _) hq 2 (.slice A 8 cp)
      have o4 := o3.set1 (((hT0.set _ _ _).set _ _ _).set _ _ _) (by decide) (Nat.le_refl _) hq 3 (.slice (some ⟨w.heap.size + 1, 0, none⟩) 4 4)
      have HO4 := Lib.hid o4
      have HBE := Lib.hid hb4
      have HB4 := Lib.hid hB4
      clear o1 o2 o3 o4 hb4 mk ho hoq hb hTab hB4
      obtain ⟨s0, s1, s2, s3⟩ := same4 (.int .i64 4) (.int .i64 0) (.slice A 8 cp) (.slice (some ⟨w.heap.size + 1, 0, none⟩) 4 4) z0 z1 z2 z3
      go_wp2
      refine bodyPost_ret (v := (cv 4 0 A 8 cp (some ⟨w.heap.size + 1, 0, none⟩) 4 4)) (by simp [results, Tryz.results36, go_sem, s0, s1, s2, s3]) rfl ?_
      refine ⟨⟨A, cp, some ⟨w.heap.size + 1, 0, none⟩, 4, rfl, HMk.out _ HO4.out (fun j => ?_) (by simp; omega)⟩, HBE.out⟩
      rw [World.cell?_setCell_far _ _ _ _ (by show w.heap.size ≠ w.heap.size + 1; omega), World.cell?_setCell_far _ _ _ _ (by show w.heap.size ≠ w.heap.size + 1; omega), World.cell?_setCell_far _ _ _ _ (by show w.heap.size ≠ w.heap.size + 1; omega), World.cell?_setCell_far _ _ _ _ (by show w.heap.size ≠ w.heap.size + 1; omega)]
      exact HB4.out j
end Go.Proofs.YtlncafhgmbhocaaGreatDoor
