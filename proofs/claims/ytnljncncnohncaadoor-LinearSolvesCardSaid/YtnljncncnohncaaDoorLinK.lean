/- Contracts of functions and lemmas, used by the proofs of the given statements. No condition beyond those that each lemma names. -/
import Derived.Test.YtnljncncnohncaaDoorLinJ
namespace Go.Proofs.YtnljncncnohncaaDoor
open Go.RowKit
set_option linter.unusedSimpArgs false
set_option linter.unusedVariables false
set_option maxRecDepth 20000
attribute [local irreducible] nv wp win plainB validR valR canR
/-! ## reference: dot -/
abbrev zc : Obj := .cells #[.bool false, .slice none 0 0, .slice none 0 0] 37
/-- base 0: the result's words lie in blocks of words -/
def RetE (q : Rat) (e : Ending) (w' : World) : Prop := ∃ v, e = .returned v ∧ RdS w' 0 v (canR q)
set_option maxHeartbeats 4000000 in
theorem dot_any {w : World} {b0 b1 n ca cb L : Nat} {A B : Option Addr} {X Y : Nat → Rw} (hx : RowA w b0 A n X) (hy : RowA w b1 B n Y)
    (hzx : ∀ k, k < n → (X k).2.1.length ≤ L ∧ (X k).2.2.length ≤ L) (hox : ∀ k, k < n → okR (X k)) (hzy : ∀ k, k < n → (Y k).2.1.length ≤ L ∧ (Y k).2.2.length ≤ L) (hoy : ∀ k, k < n → okR (Y k)) (hn : n ≤ 256) (hL : 1 ≤ L) (hL2 : L ≤ 1000000) :
    Calls Tryd.prog 62 #[.slice A n ca, .slice B n cb] w fun e w' => RetE (dotS (fun k => valR (X k)) (fun k => valR (Y k)) n) e w' ∧ Below w.heap.size w w' := by
  obtain ⟨x, hxe⟩ : ∃ x : Nat → Rat, x = fun k => valR (X k) := ⟨_, rfl⟩
  obtain ⟨y, hye⟩ : ∃ y : Nat → Rat, y = fun k => valR (Y k) := ⟨_, rfl⟩
  have HSX := Lib.hid (fun k (hk : k < n) => (by rw [hxe]; exact Sz_valR (hox k hk) hL (hzx k hk).1 (hzx k hk).2 : Sz L (x k)))
  have HSY := Lib.hid (fun k (hk : k < n) => (by rw [hye]; exact Sz_valR (hoy k hk) hL (hzy k hk).1 (hzy k hk).2 : Sz L (y k)))
  have HX := Lib.hid hxe
  have HY := Lib.hid hye
  have HZX := Lib.hid hzx
  have HZY := Lib.hid hzy
  have HA := Lib.hid hx
  have HB := Lib.hid hy
  rw [← hxe, ← hye]
  clear hxe hye hzx hox hzy hoy hx hy
  have hv0 := OwR.lit (w := w.alloc zc) (b0 := 0) (by simp) (RdS.zero (w.alloc zc) 0)
  simp only [World.size_alloc] at hv0
  have hb0 : Below (w.heap.size + 1) (w.alloc zc) ((w.alloc zc).alloc zc) := (Below.refl _ _).alloc (by simp) _
  go_enter Tryd.func62, Tryd.ntmps62
  go_wp2
  go_loopw [10] (fun c wr => ∃ k : Nat, k ≤ n ∧ c = .int .i64 k ∧ OwR wr 0 (some ⟨w.heap.size + 1, 0, none⟩) 1 1 (can fun _ => dotS x y k) ∧ Below (w.heap.size + 1) (w.alloc zc) wr) (fun c _ => n - (intOf c).toNat)
  case atStart => exact ⟨0, Nat.zero_le _, rfl, hv0, hb0⟩
  case round =>
    obtain ⟨k, hk, rfl, own, hb⟩ := hrel
    have hbz := hb.size
    simp only [World.size_alloc] at hbz
    have hbw : Below w.heap.size w wr := ((Below.refl w.heap.size w).alloc (Nat.le_refl _) _).trans (hb.mono (by omega))
    have hgl := own.lt
    have hfz := own.frozen
    obtain ⟨s0, A3, n3, c3', B3, m3, d3, o0, o1, o2, r0⟩ := own.var
    by_cases hlt : k < n
    · obtain ⟨ax, ox, s1, A1, n1, c1, B1, m1, d1, rfl, hax, f0, f1, f2, r1⟩ := HA.out.at_ hlt
      obtain ⟨bx, py, s2, A2, n2, c2, B2, m2, d2, rfl, hbx, g0, g1, g2, r2⟩ := HB.out.at_ hlt
      have tc : ∀ {b o : Nat} {v : Value}, w.cell? ⟨b, o, none⟩ = some v → wr.cell? ⟨b, o, none⟩ = some v := fun h => (hbw.cell (lt_of_cell h)).trans h
      have hf0 := tc f0
      have hf1 := tc f1
      have hf2 := tc f2
      have hg0 := tc g0
      have hg1 := tc g1
      have hg2 := tc g2
      have q1 := (r1.kp (Kp.of_below hbw)).rdq (HZX.out k hlt).1 (HZX.out k hlt).2
      have q2 := (r2.kp (Kp.of_below hbw)).rdq (HZY.out k hlt).1 (HZY.out k hlt).2
      rw [show valR (X k) = x k by rw [HX.out]] at q1
      rw [show valR (Y k) = y k by rw [HY.out]] at q2
      have sp := (HSX.out k hlt).mul (HSY.out k hlt) hL
      have sd := dotS_sz hL HSX.out HSY.out k (by omega)
      obtain ⟨D, hD⟩ : ∃ D, D = k * (2 * L + 1) + 1 + (L + L) := ⟨_, rfl⟩
      have hDb : D ≤ 1000000000 := by
        have : k * (2 * L + 1) ≤ 256 * (2 * L + 1) := Nat.mul_le_mul_right _ (by omega)
        omega
      have qd := RdS.canQ (q := dotS x y k) r0 (sd.more (show _ ≤ D by omega))
      have K1 := Lib.hid (fun W (hb : Below wr.heap.size wr W) => rmulQ (q1.below hb) (q2.below hb) hL (by omega))
      have K2 := Lib.hid (fun W base v1 (hb : Below wr.heap.size wr W) (hv : OwQ W base v1 (x k * y k)) => raddQ (qd.below hb) (hv.rq (sp.more (show _ ≤ D by omega))) (by omega) (by omega))
      have HO := Lib.hid own
      clear q1 q2 sp sd hD qd f0 f1 f2 g0 g1 g2 r0 r1 r2 own tc
      have ne1 : ¬ (ax = w.heap.size + 1) := by omega
      have ne2 : ¬ (bx = w.heap.size + 1) := by omega
      have ne3 : ¬ (w.heap.size + 1 = ax) := by omega
      have ne4 : ¬ (w.heap.size + 1 = bx) := by omega
      have hk0 : (0 : Int) ≤ (k : Int) := by omega
      have hk1 : (k : Int) < (n : Int) := by omega
      go_wp2
      rw [ld_later 37 (.tmp 5)]
      go_region_held3 (fun W => W.cell? ⟨ax, ox + k * 3, none⟩ = some (.bool s1) ∧ W.cell? ⟨ax, ox + k * 3 + 1, none⟩ = some (.slice A1 n1 c1) ∧ W.cell? ⟨ax, ox + k * 3 + 2, none⟩ = some (.slice B1 m1 d1) ∧ W.cell? ⟨bx, py + k * 3, none⟩ = some (.bool s2) ∧ W.cell? ⟨bx, py + k * 3 + 1, none⟩ = some (.slice A2 n2 c2) ∧ W.cell? ⟨bx, py + k * 3 + 2, none⟩ = some (.slice B2 m2 d2)) (go_keep)
        (first | ((go_at_call 53; (with_reducible refine (K1.out _ (by (skip); repeat' (first | (with_reducible exact Below.refl _ _) | (with_reducible assumption) | (with_reducible refine Below.alloc ?_ ?_ _) | (with_reducible refine Below.drew ?_) | (with_reducible refine below_drewN ?_ _) | (with_reducible refine Below.setCell ?_ ?_ _) | (with_reducible refine Below.trans ?_ (Below.mono (by with_reducible assumption) ?_)) | omega | (simp only [World.size_alloc, World.size_setCell, World.size_drew, size_drewN']; omega) | go_size))).mono ?_); rintro e w3 ⟨⟨v3, rfl, own3⟩, hb4⟩; have hb4z := Below.size hb4; (try simp only [World.size_alloc, World.size_setCell, World.size_drew] at hb4z); have hb4c0 := fun o => below_at hb4 (w.heap.size + 1) o (by first | omega | (simp only [World.size_alloc, World.size_setCell, World.size_drew]; omega)); have hb4f0 := fun o => below_fr hb4 (w.heap.size + 1) o (by first | omega | (simp only [World.size_alloc, World.size_setCell, World.size_drew]; omega)); have hb4l0 : w.heap.size + 1 < (w3).heap.size := (by omega); have hb4c1 := fun o => below_at hb4 (ax) o (by first | omega | (simp only [World.size_alloc, World.size_setCell, World.size_drew]; omega)); have hb4f1 := fun o => below_fr hb4 (ax) o (by first | omega | (simp only [World.size_alloc, World.size_setCell, World.size_drew]; omega)); have hb4l1 : ax < (w3).heap.size := (by omega); have hb4c2 := fun o => below_at hb4 (bx) o (by first | omega | (simp only [World.size_alloc, World.size_setCell, World.size_drew]; omega)); have hb4f2 := fun o => below_fr hb4 (bx) o (by first | omega | (simp only [World.size_alloc, World.size_setCell, World.size_drew]; omega)); have hb4l2 : bx < (w3).heap.size := (by omega)); obtain ⟨s3, A4, n4, c4, B4, m4, d4, rfl⟩ := own3.form) | ((go_at_call 79; (with_reducible refine (K2.out _ _ _ (by have z0 := Below.size hb4; (try simp only [World.size_alloc, World.size_setCell, World.size_drew, size_drewN'] at z0 ⊢; skip); repeat' (first | (with_reducible exact Below.refl _ _) | (with_reducible assumption) | (with_reducible refine Below.alloc ?_ ?_ _) | (with_reducible refine Below.drew ?_) | (with_reducible refine below_drewN ?_ _) | (with_reducible refine Below.setCell ?_ ?_ _) | (with_reducible refine Below.trans ?_ (Below.mono (by with_reducible assumption) ?_)) | omega | (simp only [World.size_alloc, World.size_setCell, World.size_drew, size_drewN']; omega) | go_size)) own3).mono ?_); rintro e w4 ⟨⟨v4, rfl, own4⟩, hb6⟩; have hb6z := Below.size hb6; (try simp only [World.size_alloc, World.size_setCell, World.size_drew] at hb6z); have hb6c0 := fun o => below_at hb6 (w.heap.size + 1) o (by first | omega | (simp only [World.size_alloc, World.size_setCell, World.size_drew]; omega)); have hb6f0 := fun o => below_fr hb6 (w.heap.size + 1) o (by first | omega | (simp only [World.size_alloc, World.size_setCell, World.size_drew]; omega)); have hb6l0 : w.heap.size + 1 < (w4).heap.size := (by omega); have hb6c1 := fun o => below_at hb6 (ax) o (by first | omega | (simp only [World.size_alloc, World.size_setCell, World.size_drew]; omega)); have hb6f1 := fun o => below_fr hb6 (ax) o (by first | omega | (simp only [World.size_alloc, World.size_setCell, World.size_drew]; omega)); have hb6l1 : ax < (w4).heap.size := (by omega); have hb6c2 := fun o => below_at hb6 (bx) o (by first | omega | (simp only [World.size_alloc, World.size_setCell, World.size_drew]; omega)); have hb6f2 := fun o => below_fr hb6 (bx) o (by first | omega | (simp only [World.size_alloc, World.size_setCell, World.size_drew]; omega)); have hb6l2 : bx < (w4).heap.size := (by omega)); obtain ⟨s4, A5, n5, c5, B5, m5, d5, rfl⟩ := own4.form) | fail)
      all_goals
        have hb9 : Below wr.heap.size wr w4 := (by have z0 := Below.size hb4; have z1 := Below.size hb6; (try simp only [World.size_alloc, World.size_setCell, World.size_drew, size_drewN'] at z0 z1 ⊢; skip); repeat' (first | (with_reducible exact Below.refl _ _) | (with_reducible assumption) | (with_reducible refine Below.alloc ?_ ?_ _) | (with_reducible refine Below.drew ?_) | (with_reducible refine below_drewN ?_ _) | (with_reducible refine Below.setCell ?_ ?_ _) | (with_reducible refine Below.trans ?_ (Below.mono (by with_reducible assumption) ?_)) | omega | (simp only [World.size_alloc, World.size_setCell, World.size_drew, size_drewN']; omega) | go_size))
        have o4 := (HO.out.below hb9).setVar (own4.rs (b0 := 0))
        have hb10 := hb.trans ((hb9.mono (by omega)).trans (below_of_row (b0 := w.heap.size + 1) o4.2 (fun q hq => by injection hq with hq; omega) (by have := hb9.size; omega)))
        have o5 : OwR _ 0 (some ⟨w.heap.size + 1, 0, none⟩) 1 1 (can fun _ => dotS x y (k + 1)) := o4.1
        go_wp2
        go_roundw
        case rel => exact ⟨k + 1, by omega, by go_num, o5, hb10⟩
        case measure => simp [intOf]; omega
    · have : k = n := by omega
      subst this
      have hrh := hb.block w.heap.size (by omega)
      rw [heap_alloc_new] at hrh
      have hr0 : ∀ i, wr.cell? ⟨w.heap.size, i, none⟩ = (w.alloc zc).cell? ⟨w.heap.size, i, none⟩ := fun i => hb.cell (p := ⟨w.heap.size, i, none⟩) (by show w.heap.size < _; omega)
      have hrf : ∀ i, wr.frozen? ⟨w.heap.size, i, none⟩ = false := fun i => (below_fr hb w.heap.size i (by omega)).trans (World.frozen?_alloc_new _ _ _ _)
      have R5 : Hid (RdS wr 0 (rv s0 A3 n3 c3' B3 m3 d3) (canR (dotS x y k))) := r0
      have HNW : Hid (¬ WB wr 0 w.heap.size) := fun h => by
        rcases h with h | ⟨cur, fz, h⟩
        · omega
        · rw [hrh] at h; injection h with h; injection h with _ h; exact absurd h (by decide)
      clear r0 hrh own
      go_wp2
      refine bodyPost_ret (v := (rv s0 A3 n3 c3' B3 m3 d3)) (by simp [results, Tryd.results62, go_sem, hr0]) rfl ?_
      exact ⟨⟨_, rfl, R5.out.set3 (by omega) HNW.out _ _ _⟩, (((hbw.setCell (by simp) _).setCell (by simp) _).setCell (by simp) _)⟩
end Go.Proofs.YtnljncncnohncaaDoor
