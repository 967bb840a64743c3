/- Contracts of functions and lemmas, used by the proofs of the given statements. No condition beyond those that each lemma names. -/
import Derived.Test.YtlncafhgmbhocaaGreatDoorChX
namespace Go.Proofs.YtlncafhgmbhocaaGreatDoor
open Go.RowKit
set_option linter.unusedSimpArgs false
set_option linter.unusedVariables false
set_option maxRecDepth 20000
attribute [local irreducible] nv wp win plainB validR valR canR mvE chkM codeC exK
/-! ## slices.MaxFunc at fractions, rational.Cmp -/
/-- the greatest of the elements 0 to k -/
def maxF (x : Nat → Rat) : Nat → Rat
  | 0 => x 0
  | k + 1 => if maxF x k < x (k + 1) then x (k + 1) else maxF x k
theorem maxF_sz {x : Nat → Rat} {L : Nat} : ∀ {k : Nat}, (∀ j, j ≤ k → Sz L (x j)) → Sz L (maxF x k)
  | 0, h => h 0 (by omega)
  | k + 1, h => by
    rw [maxF]
    split
    · exact h _ (Nat.le_refl _)
    · exact maxF_sz fun j hj => h j (by omega)
theorem maxF_ge {x : Nat → Rat} : ∀ {k j : Nat}, j ≤ k → x j ≤ maxF x k
  | 0, j, h => by rw [show j = 0 by omega]; exact Rat.le_refl
  | k + 1, j, h => by
    rw [maxF]
    by_cases e : j = k + 1
    · subst e
      split
      · exact Rat.le_refl
      · rename_i h1; exact Rat.not_lt.1 h1
    · have := maxF_ge (x := x) (show j ≤ k by omega)
      split
      · rename_i h1; exact Rat.le_trans this (Rat.le_of_lt h1)
      · exact this
theorem maxF_le {x : Nat → Rat} {r : Rat} : ∀ {k : Nat}, (∀ j, j ≤ k → x j ≤ r) → maxF x k ≤ r
  | 0, h => h 0 (by omega)
  | k + 1, h => by
    rw [maxF]
    split
    · exact h _ (Nat.le_refl _)
    · exact maxF_le fun j hj => h j (by omega)
theorem cmpS {w : World} {b0 b1 L : Nat} {v u : Value} {q r : Rat} {z : Int} (h : RdS w b0 v (canR q)) (h' : RdS w b1 u (canR r)) (hq : Sz L q) (hr : Sz L r) (hL : 1 ≤ L) (hL2 : L ≤ 1000000) (hz : sgnQ (q - r) = z) :
    Calls Tryz.prog 87 #[v, u] w fun e w' => e = .returned (.int .i64 z) ∧ Below w.heap.size w w' := by
  subst hz
  exact cmpQ (h.canQ hq) (h'.canQ hr) hL (by omega)
/-- an element of a list -/
def RetS1 (q : Rat) (e : Ending) (w' : World) : Prop := ∃ v, e = .returned v ∧ RdS w' 0 v (canR q)
def MaxR (w : World) (x : Nat → Rat) (n k : Nat) (wr : World) : Prop :=
  ∃ s A1 n1 c1 B1 m1 d1, wr.cell? ⟨w.heap.size + 1, 0, none⟩ = some (.bool s) ∧ wr.cell? ⟨w.heap.size + 1, 1, none⟩ = some (.slice A1 n1 c1) ∧ wr.cell? ⟨w.heap.size + 1, 2, none⟩ = some (.slice B1 m1 d1) ∧ RdS w 0 (rv s A1 n1 c1 B1 m1 d1) (canR (maxF x (k - 1)))
set_option maxHeartbeats 4000000 in
theorem max_any {w : World} {A : Option Addr} {n c L : Nat} {x : Nat → Rat} (h : RowA w 0 A n (can x)) (hn : 0 < n) (hn2 : n ≤ 1000000) (hs : ∀ k, k < n → Sz L (x k)) (hL : 1 ≤ L) (hL2 : L ≤ 100000) :
    Calls Tryz.prog 154 #[.slice A n c, .func (.func 87) #[] #[]] w fun e w' => RetS1 (maxF x (n - 1)) e w' ∧ Below w.heap.size w w' := by
  obtain ⟨b, off, s0, A0, n0, c0, B0, m0, d0, rfl, hbb, f0, f1, f2, r0⟩ := h.at_ hn
  simp only [Nat.zero_mul, Nat.add_zero] at f0 f1 f2
  have e1 : decide ((n : Int) < 1) = false := by simp; omega
  have hn3 : (0 : Int) < (n : Int) := by omega
  have HA := Lib.hid h
  have HZ := Lib.hid hs
  have HR0 := Lib.hid r0
  clear h hs r0
  go_enter Tryz.func154, Tryz.ntmps154
  have f0' := fun o1 o2 => Lib.cell?_alloc_some o2 (Lib.cell?_alloc_some o1 f0)
  have f1' := fun o1 o2 => Lib.cell?_alloc_some o2 (Lib.cell?_alloc_some o1 f1)
  have f2' := fun o1 o2 => Lib.cell?_alloc_some o2 (Lib.cell?_alloc_some o1 f2)
  have f0'' := fun o1 => Lib.cell?_alloc_some o1 f0
  have f1'' := fun o1 => Lib.cell?_alloc_some o1 f1
  have f2'' := fun o1 => Lib.cell?_alloc_some o1 f2
  go_wp2
  go_loopw [6] (fun i wr => ∃ k : Nat, 1 ≤ k ∧ k ≤ n ∧ i = .int .i64 (k : Int) ∧ MaxR w x n k wr ∧ Below (w.heap.size + 1) (w.alloc (.cells #[.bool false, .slice none 0 0, .slice none 0 0] 44)) wr ∧ w.heap.size + 1 < wr.heap.size ∧ wr.frozen? ⟨w.heap.size + 1, 0, none⟩ = false ∧ wr.frozen? ⟨w.heap.size + 1, 1, none⟩ = false ∧ wr.frozen? ⟨w.heap.size + 1, 2, none⟩ = false) (fun i _ => n - (intOf i).toNat)
  case atStart =>
    refine ⟨1, by omega, by omega, rfl, ⟨s0, A0, n0, c0, B0, m0, d0, by simp, by simp, by simp, HR0.out⟩, (by (skip); repeat' (first | (with_reducible exact Below.refl _ _) | (with_reducible assumption) | (with_reducible refine Below.alloc ?_ ?_ _) | (with_reducible refine Below.drew ?_) | (with_reducible refine below_drewN ?_ _) | (with_reducible refine Below.setCell ?_ ?_ _) | (with_reducible refine Below.trans ?_ (Below.mono (by with_reducible assumption) ?_)) | omega | (simp only [ZA, ZS, ZD, ZN]; omega) | go_size)), by simp, by simp, by simp, by simp⟩
  case round =>
    obtain ⟨k, hk1, hk, rfl, ⟨s3, A3, n3, c3', B3, m3, d3, g0, g1, g2, r3⟩, hbW, hz, z0, z1, z2⟩ := hrel
    have hb : Below w.heap.size w wr := ((Below.refl _ _).alloc (Nat.le_refl _) _).trans (hbW.mono (by omega))
    by_cases hlt : k < n
    · obtain ⟨b', off', s1, A1, n1, c1, B1, m1, d1, eb, -, p0, p1, p2, r1⟩ := HA.out.at_ hlt
      injection eb with eb
      injection eb with eb1 eb2
      subst eb1 eb2
      have x0 := (hb.cell (lt_of_cell p0)).trans p0
      have x1 := (hb.cell (lt_of_cell p1)).trans p1
      have x2 := (hb.cell (lt_of_cell p2)).trans p2
      have hsx := HZ.out k hlt
      have hsm : Sz L (maxF x (k - 1)) := maxF_sz fun j hj => HZ.out j (by omega)
      have HX : Hid (maxF x k = if maxF x (k - 1) < x k then x k else maxF x (k - 1)) := by
        show _ = _
        obtain ⟨m, rfl⟩ : ∃ m, k = m + 1 := ⟨k - 1, by omega⟩
        rw [maxF, Nat.add_sub_cancel]
      have K0 := fun W z (hb' : Below wr.heap.size wr W) (hz : sgnQ (x k - maxF x (k - 1)) = z) => cmpS (r1.kp (Kp.of_below (hb.trans (hb'.mono hb.size)))) (r3.kp (Kp.of_below (hb.trans (hb'.mono hb.size)))) hsx hsm hL (by omega) hz
      have y0 := fun y : Sub wr => y.cell x0
      have y1 := fun y : Sub wr => y.cell x1
      have y2 := fun y : Sub wr => y.cell x2
      have u0 := fun y : Sub wr => y.cell g0
      have u1 := fun y : Sub wr => y.cell g1
      have u2 := fun y : Sub wr => y.cell g2
      have hk0 : (0 : Int) ≤ (k : Int) := by omega
      have hki : (k : Int) < (n : Int) := by omega
      have HR1 := Lib.hid r1
      have HR3 := Lib.hid r3
      by_cases hgt : maxF x (k - 1) < x k
      · have K1 := Lib.hid (fun W hb' => K0 W 1 hb' (sgn_pos (by grind)))
        have HM : Hid (maxF x k = x k) := HX.out.trans (if_pos hgt)
        clear K0 hgt hsx hsm r1 r3
        go_wp2
        ((refine wp_region_quiet_bel (by kernel_rfl) (by kernel_rfl) ?_); (repeat (go_big_quiet_step ((go_at_call 87; with_reducible exact Calls.quiet_bel (K1.out _ (Sub.bel _)))))); (refine wpQuiet_nil ?_); rintro w5 ⟨⟨_, hb5⟩, rfl⟩; (try dsimp only))
        obtain ⟨hc5, hf5⟩ := bcell hb5
        have hz5 := hb5.size
        have hb9 := hbW.trans (hb5.mono (by omega))
        have v0 := (hc5 b (off + k * 3) (by have := hb.size; omega)).trans x0
        have v1 := (hc5 b (off + k * 3 + 1) (by have := hb.size; omega)).trans x1
        have v2 := (hc5 b (off + k * 3 + 2) (by have := hb.size; omega)).trans x2
        clear y0 y1 y2 u0 u1 u2
        go_wp2
        go_roundw
        case rel =>
          have s9 := set3 (w := w5) (g := w.heap.size + 1) (o := 0) (a := .bool s1) (b := .slice A1 n1 c1) (d := .slice B1 m1 d1) ((hc5 _ _ hz).trans g0) ((hc5 _ _ hz).trans g1) ((hc5 _ _ hz).trans g2)
          refine ⟨k + 1, by omega, by omega, by go_num, ⟨s1, A1, n1, c1, B1, m1, d1, s9.1, s9.2.1, s9.2.2, ?_⟩, ?_, by simp; omega, ?_, ?_, ?_⟩
          · rw [Nat.add_sub_cancel, HM.out]; exact HR1.out
          · exact ((hb9.setCell (by simp) _).setCell (by simp) _).setCell (by simp) _
          · rw [World.frozen?_setCell, World.frozen?_setCell, World.frozen?_setCell, hf5 _ _ hz]; exact z0
          · rw [World.frozen?_setCell, World.frozen?_setCell, World.frozen?_setCell, hf5 _ _ hz]; exact z1
          · rw [World.frozen?_setCell, World.frozen?_setCell, World.frozen?_setCell, hf5 _ _ hz]; exact z2
        case measure => simp [intOf]; omega
      · have hle : ∃ z : Int, z ≤ 0 ∧ sgnQ (x k - maxF x (k - 1)) = z := by
          rcases sgn_le (q := x k - maxF x (k - 1)) (by grind) with e | e
          · exact ⟨0, by omega, e⟩
          · exact ⟨-1, by omega, e⟩
        obtain ⟨z, hz9, hs9⟩ := hle
        have e5 : decide (0 < z) = false := by simp; omega
        have K1 := Lib.hid (fun W hb' => K0 W z hb' hs9)
        have HM : Hid (maxF x k = maxF x (k - 1)) := HX.out.trans (if_neg hgt)
        clear K0 hgt hsx hsm r1 r3 hs9
        go_wp2
        ((refine wp_region_quiet_bel (by kernel_rfl) (by kernel_rfl) ?_); (repeat (go_big_quiet_step ((go_at_call 87; with_reducible exact Calls.quiet_bel (K1.out _ (Sub.bel _)))))); (refine wpQuiet_nil ?_); rintro w5 ⟨⟨_, hb5⟩, rfl⟩; (try dsimp only))
        obtain ⟨hc5, hf5⟩ := bcell hb5
        have hz5 := hb5.size
        have hb9 := hbW.trans (hb5.mono (by omega))
        have v0 := (hc5 b (off + k * 3) (by have := hb.size; omega)).trans x0
        have v1 := (hc5 b (off + k * 3 + 1) (by have := hb.size; omega)).trans x1
        have v2 := (hc5 b (off + k * 3 + 2) (by have := hb.size; omega)).trans x2
        clear y0 y1 y2 u0 u1 u2
        go_wp2
        go_roundw
        case rel =>
          refine ⟨k + 1, by omega, by omega, by go_num, ⟨s3, A3, n3, c3', B3, m3, d3, by rw [hc5 _ _ hz]; exact g0, by rw [hc5 _ _ hz]; exact g1, by rw [hc5 _ _ hz]; exact g2, ?_⟩, hb9, by omega, by rw [hf5 _ _ hz]; exact z0, by rw [hf5 _ _ hz]; exact z1, by rw [hf5 _ _ hz]; exact z2⟩
          rw [Nat.add_sub_cancel, HM.out]; exact HR3.out
        case measure => simp [intOf]; omega
    · have hkn : k = n := by omega
      subst hkn
      have HR3 := Lib.hid r3
      clear r3
      have t0 := (hbW.cell (p := ⟨w.heap.size, 0, none⟩) (by show w.heap.size < _; omega)).trans (by simp : _ = some (.bool false))
      have t1 := (hbW.cell (p := ⟨w.heap.size, 1, none⟩) (by show w.heap.size < _; omega)).trans (by simp : _ = some (.slice none 0 0))
      have t2 := (hbW.cell (p := ⟨w.heap.size, 2, none⟩) (by show w.heap.size < _; omega)).trans (by simp : _ = some (.slice none 0 0))
      have t3 := (hbW.frozen (p := ⟨w.heap.size, 0, none⟩) (by show w.heap.size < _; omega)).trans (by simp : _ = false)
      have t4 := (hbW.frozen (p := ⟨w.heap.size, 1, none⟩) (by show w.heap.size < _; omega)).trans (by simp : _ = false)
      have t5 := (hbW.frozen (p := ⟨w.heap.size, 2, none⟩) (by show w.heap.size < _; omega)).trans (by simp : _ = false)
      go_wp2
      refine bodyPost_ret (v := (rv s3 A3 n3 c3' B3 m3 d3)) (by simp [results, Tryz.results154, go_sem, t0, t1, t2]) rfl ?_
      have hb9 : Below w.heap.size w (((wr.setCell ⟨w.heap.size, 0, none⟩ (.bool s3)).setCell ⟨w.heap.size, 1, none⟩ (.slice A3 n3 c3')).setCell ⟨w.heap.size, 2, none⟩ (.slice B3 m3 d3)) := ((hb.setCell (Nat.le_refl _) _).setCell (Nat.le_refl _) _).setCell (Nat.le_refl _) _
      exact ⟨⟨_, rfl, HR3.out.kp (Kp.of_below hb9)⟩, hb9⟩
end Go.Proofs.YtlncafhgmbhocaaGreatDoor
