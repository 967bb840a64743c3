/- Contracts of functions and lemmas, used by the proofs of the given statements. No condition beyond those that each lemma names. -/
import Derived.Test.YtomkdgcpmpbfhaaDoorJOpenNum
namespace Go.Proofs.YtomkdgcpmpbfhaaDoor
open Go.RowKit
set_option linter.unusedSimpArgs false
set_option linter.unusedVariables false
set_option maxRecDepth 20000
attribute [local irreducible] nv wp win plainB validR valR canR sumN
/-! ## law54: sum -/
set_option maxHeartbeats 4000000 in
theorem sum54_any {w : World} {b0 n c L : Nat} {A : Option Addr} {x : Nat → Rat} (h : RowA w b0 A n (can x)) (hs : ∀ k, k ≤ n → Sz L (sumN x k)) (hx : ∀ k, k < n → Sz L (x k)) (hL : 1 ≤ L) (hL2 : L ≤ 1000000000) (hn : n ≤ 1000000) :
    Calls Tryd.prog 12 #[.slice A n c] w fun e w' => RetS1 (sumN x n) e w' ∧ Below w.heap.size w w' := by
  have HA := Lib.hid h
  have HS := Lib.hid hs
  have HX := Lib.hid hx
  have H0 := Lib.hid (by unfold sumN; rfl : sumN x 0 = 0)
  have H1 := Lib.hid (fun k => (by conv => lhs; unfold sumN : sumN x (k + 1) = sumN x k + x k))
  clear h hs hx
  go_enter Tryd.func12, Tryd.ntmps12
  go_wp2
  go_loopw [8] (fun i wr => ∃ k : Nat, k ≤ n ∧ i = .int .i64 (k : Int) ∧ VarR (w.heap.size + 1) (sumN x k) wr ∧ Below (w.heap.size + 1) (w.alloc (.cells #[.bool false, .slice none 0 0, .slice none 0 0] 36)) wr) (fun i _ => n - (intOf i).toNat)
  case atStart =>
    have b2 := VarR.new (w.alloc (.cells #[.bool false, .slice none 0 0, .slice none 0 0] 36))
    rw [show (w.alloc (.cells #[.bool false, .slice none 0 0, .slice none 0 0] 36)).heap.size = w.heap.size + 1 by simp] at b2
    exact ⟨0, Nat.zero_le _, rfl, by rw [H0.out]; exact b2, (Below.refl _ _).alloc (by simp) _⟩
  case round =>
    obtain ⟨k, hk, rfl, hv, hb⟩ := hrel
    have hbW : Below w.heap.size w wr := ((Below.refl _ _).alloc (Nat.le_refl _) _).trans (hb.mono (by omega))
    have hzr := hb.size
    simp only [World.size_alloc] at hzr
    obtain ⟨⟨s3, A3, n3, c3', B3, m3, d3, g0, g1, g2, r3⟩, hrb, hgz, hgf⟩ := id hv
    by_cases hlt : k < n
    · obtain ⟨bx, ox, s1, A1, n1, c1, B1, m1, d1, rfl, hbx, f0, f1, f2, r1⟩ := HA.out.at_ hlt
      have x0 := (hbW.cell (lt_of_cell f0)).trans f0
      have x1 := (hbW.cell (lt_of_cell f1)).trans f1
      have x2 := (hbW.cell (lt_of_cell f2)).trans f2
      have qs := r3.canQ (HS.out k hk)
      have qx := (r1.kp (Kp.of_below hbW)).canQ (HX.out k hlt)
      have KA := Lib.hid (fun W (hb : Below wr.heap.size wr W) => addQ (qs.below hb) (qx.below hb) hL (by omega))
      have hki : (k : Int) < (n : Int) := by omega
      have hk0 : (0 : Int) ≤ (k : Int) := by omega
      have HV := Lib.hid hv
      have HB := Lib.hid hb
      clear f0 f1 f2 r1 r3 qs qx hv hb hrb hbW
      (have oac := fun o i => below_at ((Below.refl wr.heap.size wr).alloc (Nat.le_refl _) o) (w.heap.size + 1) i (by omega)); (have oaf := fun o i => below_fr ((Below.refl wr.heap.size wr).alloc (Nat.le_refl _) o) (w.heap.size + 1) i (by omega))
      (go_wp2_with fail; (with_reducible refine (KA.out _ (by (skip); repeat' (first | (with_reducible exact Below.refl _ _) | (with_reducible assumption) | (with_reducible refine Below.alloc ?_ ?_ _) | (with_reducible refine Below.drew ?_) | (with_reducible refine below_drewN ?_ _) | (with_reducible refine Below.setCell ?_ ?_ _) | (with_reducible refine Below.trans ?_ (Below.mono (by with_reducible assumption) ?_)) | omega | (simp only [World.size_alloc, World.size_setCell, World.size_drew, size_drewN']; omega) | go_size))).mono ?_); rintro e w4 ⟨⟨v4, rfl, own4⟩, hb4⟩; have hb4z := Below.size hb4; (try simp only [World.size_alloc, World.size_setCell, World.size_drew, size_drewN'] at hb4z); have hb4c0 := fun o => below_at hb4 (w.heap.size + 1) o (by first | omega | (simp only [World.size_alloc, World.size_setCell, World.size_drew, size_drewN']; omega)); have hb4f0 := fun o => below_fr hb4 (w.heap.size + 1) o (by first | omega | (simp only [World.size_alloc, World.size_setCell, World.size_drew, size_drewN']; omega)))
      obtain ⟨s4, A4, n4, c4, B4, m4, d4, rfl⟩ := own4.form
      have hb9 : Below wr.heap.size wr w4 := ((Below.refl _ _).alloc (Nat.le_refl _) _).trans (hb4.mono (by simp))
      have p1 := (HV.out.below hb9).put (own4.rs (b0 := 0))
      rw [← H1.out k] at p1
      have nb := below_set3 (HB.out.trans (hb9.mono (by omega))) (Nat.le_refl _) (.bool s4) (.slice A4 n4 c4) (.slice B4 m4 d4)
      have HP := Lib.hid p1
      have HN := Lib.hid nb
      clear p1 nb own4 hb9
      go_wp2
      go_roundw
      case rel => exact ⟨k + 1, by omega, by go_num, HP.out, HN.out⟩
      case measure => simp [intOf]; omega
    · have hkn : k = n := by omega
      subst hkn
      have hlz : w.heap.size < w.heap.size + 1 := by omega
      have z0 : wr.cell? ⟨w.heap.size, 0, none⟩ = some (.bool false) := (hb.cell (p := ⟨w.heap.size, 0, none⟩) hlz).trans (by simp)
      have z1 : wr.cell? ⟨w.heap.size, 1, none⟩ = some (.slice none 0 0) := (hb.cell (p := ⟨w.heap.size, 1, none⟩) hlz).trans (by simp)
      have z2 : wr.cell? ⟨w.heap.size, 2, none⟩ = some (.slice none 0 0) := (hb.cell (p := ⟨w.heap.size, 2, none⟩) hlz).trans (by simp)
      have z3 : ∀ i, wr.frozen? ⟨w.heap.size, i, none⟩ = false := fun i => (hb.frozen (p := ⟨w.heap.size, i, none⟩) hlz).trans (by simp)
      have hrb0 : RatB wr w.heap.size := (RatB.new w _).below hb hlz
      have HRB := Lib.hid hrb0
      have HR3 := Lib.hid r3
      have HBW := Lib.hid hbW
      clear hv hb r3 hrb hbW hrb0
      go_wp2
      refine bodyPost_ret (v := (rv s3 A3 n3 c3' B3 m3 d3)) (by simp [results, Tryd.results12, go_sem, z0, z1, z2]) rfl ?_
      exact ⟨⟨_, rfl, HR3.out.kp (Kp.store3 HRB.out (Nat.zero_le _) _ _ _)⟩, below_set3 HBW.out (Nat.le_refl _) _ _ _⟩
end Go.Proofs.YtomkdgcpmpbfhaaDoor
