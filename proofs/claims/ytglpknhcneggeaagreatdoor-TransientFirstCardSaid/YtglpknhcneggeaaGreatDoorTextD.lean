/- Contracts of functions and lemmas, used by the proofs of the given statements. No condition beyond those that each lemma names. -/
import Derived.Test.YtglpknhcneggeaaGreatDoorTextC
import Derived.Test.YtglpknhcneggeaaGreatDoorJRatK
namespace Go.Proofs.YtglpknhcneggeaaGreatDoor
open Go.RowKit
set_option linter.unusedSimpArgs false
set_option linter.unusedVariables false
set_option maxRecDepth 20000
attribute [local irreducible] nv wp win
/-! ## package rational: Text of a valid number other than 0, of one group either side -/
def RetPC (s : Bool) (x y : Nat) (e : Ending) (w' : World) : Prop :=
  ∃ A n c B n' d, e = .returned (.tuple #[.bool s, .slice A n c, .slice B n' d]) ∧ RdN w' A n c x ∧ RdN w' B n' d y
set_option maxHeartbeats 1000000 in
theorem parts_can {w : World} {v : Value} {q : Rat} (h : RdR w v (canR q)) (hq : q ≠ 0) (hs : Sz 100000000000 q) :
    Calls Tryz.prog 68 #[v] w fun e w' => RetPC (decide (q < 0)) q.num.natAbs q.den e w' ∧ Below w.heap.size w w' := by
  have hz0 := Sz_canR hs
  have hval := canR_valid q
  have hcan : canR q = (decide (q < 0), dig q.num.natAbs, dig q.den) := by unfold canR; rw [if_neg hq]
  rw [hcan] at h hz0 hval
  obtain ⟨A, c, B, d, rfl, hc, hd, hok, hA, hB⟩ := h
  simp only at hc hd hA hB hz0 ⊢
  have hbA : ∀ o, Below w.heap.size w (w.alloc o) := fun o => (Below.refl _ _).alloc (Nat.le_refl _) o
  have hnz : (dig q.num.natAbs).length ≠ 0 := fun h => by
    have := dig_len_zero.1 h
    exact hq (Rat.num_eq_zero.1 (Int.natAbs_eq_zero.1 this))
  have K := Lib.hid (fun W (hb : Below w.heap.size w W) => valid_any (decide (q < 0)) A B (dig q.num.natAbs) (dig q.den) _ c _ d W rfl rfl (by omega) (by omega) hc hd hok.1 hok.2 (hA.on hb hb.size) (hB.on hb hb.size))
  rw [hval] at K
  have HR := Lib.hid (fun W (hb : Below w.heap.size w W) => (⟨A, _, c, B, _, d, rfl, ⟨rfl, hc, hA.on hb hb.size⟩, ⟨rfl, hd, hB.on hb hb.size⟩⟩ : RetPC (decide (q < 0)) q.num.natAbs q.den (.returned (.tuple #[.bool (decide (q < 0)), .slice A (dig q.num.natAbs).length c, .slice B (dig q.den).length d])) W))
  clear hval hok hA hB hcan hz0
  generalize (dig q.num.natAbs).length = n at *
  generalize (dig q.den).length = n' at *
  generalize decide (q < 0) = s at *
  have hz : ((n : Int) == 0) = false := by simpa using hnz
  go_enter Tryz.func68, Tryz.ntmps68
  go_wp2_with (first | (go_at_call 90; (with_reducible refine (K.out _ (hbA _)).mono ?_); rintro e w1 ⟨rfl, hb1⟩; have hb1z := Below.size hb1; (try simp only [World.size_alloc, World.size_setCell, World.size_drew] at hb1z); have hb1c0 := fun o => below_at hb1 (w.heap.size) o (by first | omega | (simp only [World.size_alloc, World.size_setCell, World.size_drew]; omega)); have hb1f0 := fun o => below_fr hb1 (w.heap.size) o (by first | omega | (simp only [World.size_alloc, World.size_setCell, World.size_drew]; omega)); have hb1l0 : w.heap.size < (w1).heap.size := (by omega)) | fail)
  go_quiet (fail)
  go_wp2
  refine bodyPost_ret (v := (.tuple #[.bool s, .slice A n c, .slice B n' d])) (by simp [results, Tryz.results68, go_sem]) rfl ?_
  have hb9 := (hbA (.cells #[.bool s, .slice A n c, .slice B n' d] 28)).trans (hb1.mono (by simp))
  exact ⟨HR.out _ (by have z0 := Below.size hb9; (try simp only [World.size_alloc, World.size_setCell, World.size_drew, size_drewN'] at z0 ⊢; skip); repeat' (first | (with_reducible exact Below.refl _ _) | (with_reducible assumption) | (with_reducible refine Below.alloc ?_ ?_ _) | (with_reducible refine Below.drew ?_) | (with_reducible refine below_drewN ?_ _) | (with_reducible refine Below.setCell ?_ ?_ _) | (with_reducible refine Below.trans ?_ (Below.mono (by with_reducible assumption) ?_)) | omega | (simp only [World.size_alloc, World.size_setCell, World.size_drew, size_drewN']; omega) | go_size)), (by have z0 := Below.size hb9; (try simp only [World.size_alloc, World.size_setCell, World.size_drew, size_drewN'] at z0 ⊢; skip); repeat' (first | (with_reducible exact Below.refl _ _) | (with_reducible assumption) | (with_reducible refine Below.alloc ?_ ?_ _) | (with_reducible refine Below.drew ?_) | (with_reducible refine below_drewN ?_ _) | (with_reducible refine Below.setCell ?_ ?_ _) | (with_reducible refine Below.trans ?_ (Below.mono (by with_reducible assumption) ?_)) | omega | (simp only [World.size_alloc, World.size_setCell, World.size_drew, size_drewN']; omega) | go_size))⟩
def signTx (s : Bool) : ByteArray := if s then ⟨#[45]⟩ else .empty
set_option maxHeartbeats 2000000 in
theorem text_can {w : World} {v : Value} {q : Rat} (h : RdR w v (canR q)) (hq : q ≠ 0) (hx : q.num.natAbs < 1000000000) (hy : q.den < 1000000000) (t t' : List UInt8)
    (ht : Lib.trimLeftB (strOfNums (nineL q.num.natAbs)).data.toList 48 = t) (ht' : Lib.trimLeftB (strOfNums (nineL q.den)).data.toList 48 = t') (hn : t ≠ []) (hn' : t' ≠ []) (hl : t.length ≤ 9) (hl' : t'.length ≤ 9) :
    Calls Tryz.prog 52 #[v] w fun e w' => e = .returned (.string (if q.den = 1 then signTx (decide (q < 0)) ++ ⟨t.toArray⟩ else signTx (decide (q < 0)) ++ ⟨t.toArray⟩ ++ (⟨#[47]⟩ ++ ⟨t'.toArray⟩))) ∧ Below w.heap.size w w' := by
  have h32 : wp 100000000000 > 1000000000 := by
    have h1 : wp 1 = 4294967296 := wp_one
    have := wp_le (show 1 ≤ 100000000000 by omega)
    omega
  have K := Lib.hid (fun W (hb : Below w.heap.size w W) => parts_can (w := W) (h.below hb) hq ⟨by omega, by omega⟩)
  have hx0 : q.num.natAbs ≠ 0 := fun h => hq (Rat.num_eq_zero.1 (Int.natAbs_eq_zero.1 h))
  have hy0 : q.den ≠ 0 := q.den_nz
  obtain ⟨A0, c0, B0, d0, rfl, _⟩ := h
  clear hq h32
  generalize (canR q).1 = s0 at *
  generalize (canR q).2.1.length = n0 at *
  generalize (canR q).2.2.length = m0 at *
  generalize q.num.natAbs = x at *
  generalize q.den = y at *
  generalize decide (q < 0) = s at *
  have KX := Lib.hid (fun (A : Option Addr) (n c : Nat) (W : World) (h : RdN W A n c x) => text_small h hx0 hx t ht hn)
  have KY := Lib.hid (fun (A : Option Addr) (n c : Nat) (W : World) (h : RdN W A n c y) => text_small h hy0 hy t' ht' hn')
  have HL := Lib.hid (fun (A : Option Addr) (n c : Nat) (W : World) (h : RdN W A n c y) => (by rw [h.1, dig_small hy0 (by omega)]; simp : n ≤ 274877906900))
  have HC := Lib.hid (fun (h : y = 1) => (by rw [h]; rfl : cmpN y 1 = 0))
  have HC2 := Lib.hid (fun (h : y ≠ 1) => (by unfold cmpN; rw [if_neg (by omega), if_neg h] : cmpN y 1 = 1))
  clear hx hy ht ht' hn hn' hx0 hy0
  go_enter Tryz.func52, Tryz.ntmps52
  (go_wp2_with fail; (with_reducible refine (K.out _ (by (skip); repeat' (first | (with_reducible exact Below.refl _ _) | (with_reducible assumption) | (with_reducible refine Below.alloc ?_ ?_ _) | (with_reducible refine Below.drew ?_) | (with_reducible refine below_drewN ?_ _) | (with_reducible refine Below.setCell ?_ ?_ _) | (with_reducible refine Below.trans ?_ (Below.mono (by with_reducible assumption) ?_)) | omega | (simp only [World.size_alloc, World.size_setCell, World.size_drew, size_drewN']; omega) | go_size))).mono ?_); rintro e w1 ⟨⟨A1, n1, c1, B1, m1, d1, rfl, rx, ry⟩, hb1⟩; have hb1z := Below.size hb1; (try simp only [World.size_alloc, World.size_setCell, World.size_drew, size_drewN'] at hb1z); have hb1c0 := fun o => below_at hb1 (w.heap.size) o (by first | omega | (simp only [World.size_alloc, World.size_setCell, World.size_drew, size_drewN']; omega)); have hb1f0 := fun o => below_fr hb1 (w.heap.size) o (by first | omega | (simp only [World.size_alloc, World.size_setCell, World.size_drew, size_drewN']; omega)))
  (go_wp2_with fail; (with_reducible refine (KX.out _ _ _ _ rx).mono ?_); rintro e w2 ⟨rfl, hb2⟩; have hb2z := Below.size hb2; (try simp only [World.size_alloc, World.size_setCell, World.size_drew, size_drewN'] at hb2z); have hb2c0 := fun o => below_at hb2 (w.heap.size) o (by first | omega | (simp only [World.size_alloc, World.size_setCell, World.size_drew, size_drewN']; omega)); have hb2f0 := fun o => below_fr hb2 (w.heap.size) o (by first | omega | (simp only [World.size_alloc, World.size_setCell, World.size_drew, size_drewN']; omega)))
  have ry2 := ry.below hb2
  have h60 := HL.out _ _ _ _ ry
  by_cases hy1 : y = 1
  · have hc0 := HC.out hy1
    cases s
    all_goals
      go_wp2_with (first | ((go_at_call 67; (with_reducible refine (oneN _).mono ?_); rintro e w3 ⟨⟨A3, n3, c3, rfl, own3⟩, hb3⟩; have hb3z := Below.size hb3; (try simp only [World.size_alloc, World.size_setCell, World.size_drew] at hb3z); have hb3c0 := fun o => below_at hb3 (w.heap.size) o (by first | omega | (simp only [World.size_alloc, World.size_setCell, World.size_drew]; omega)); have hb3f0 := fun o => below_fr hb3 (w.heap.size) o (by first | omega | (simp only [World.size_alloc, World.size_setCell, World.size_drew]; omega)); have hb3l0 : w.heap.size < (w3).heap.size := (by omega)); have h61 : n3 ≤ 274877906900 := (by rw [own3.1, dig_one]; simp); have ry3 := ry2.below hb3) | (go_at_call 81; (with_reducible refine (cmpNN ry3 own3.rd h60 h61).mono ?_); rintro e w4 ⟨rfl, hb4⟩; have hb4z := Below.size hb4; (try simp only [World.size_alloc, World.size_setCell, World.size_drew] at hb4z); have hb4c0 := fun o => below_at hb4 (w.heap.size) o (by first | omega | (simp only [World.size_alloc, World.size_setCell, World.size_drew]; omega)); have hb4f0 := fun o => below_fr hb4 (w.heap.size) o (by first | omega | (simp only [World.size_alloc, World.size_setCell, World.size_drew]; omega)); have hb4l0 : w.heap.size < (w4).heap.size := (by omega)) | fail)
      go_ret
      exact ⟨by first | rfl | (unfold signTx; simp), (by have z0 := Below.size hb1; have z1 := Below.size hb2; have z2 := Below.size hb3; have z3 := Below.size hb4; (try simp only [World.size_alloc, World.size_setCell, World.size_drew, size_drewN'] at z0 z1 z2 z3 ⊢; skip); repeat' (first | (with_reducible exact Below.refl _ _) | (with_reducible assumption) | (with_reducible refine Below.alloc ?_ ?_ _) | (with_reducible refine Below.drew ?_) | (with_reducible refine below_drewN ?_ _) | (with_reducible refine Below.setCell ?_ ?_ _) | (with_reducible refine Below.trans ?_ (Below.mono (by with_reducible assumption) ?_)) | omega | (simp only [World.size_alloc, World.size_setCell, World.size_drew, size_drewN']; omega) | go_size))⟩
  · have hc0 := HC2.out hy1
    cases s
    all_goals
      go_wp2_with (first | ((go_at_call 67; (with_reducible refine (oneN _).mono ?_); rintro e w3 ⟨⟨A3, n3, c3, rfl, own3⟩, hb3⟩; have hb3z := Below.size hb3; (try simp only [World.size_alloc, World.size_setCell, World.size_drew] at hb3z); have hb3c0 := fun o => below_at hb3 (w.heap.size) o (by first | omega | (simp only [World.size_alloc, World.size_setCell, World.size_drew]; omega)); have hb3f0 := fun o => below_fr hb3 (w.heap.size) o (by first | omega | (simp only [World.size_alloc, World.size_setCell, World.size_drew]; omega)); have hb3l0 : w.heap.size < (w3).heap.size := (by omega)); have h61 : n3 ≤ 274877906900 := (by rw [own3.1, dig_one]; simp); have ry3 := ry2.below hb3) | (go_at_call 81; (with_reducible refine (cmpNN ry3 own3.rd h60 h61).mono ?_); rintro e w4 ⟨rfl, hb4⟩; have hb4z := Below.size hb4; (try simp only [World.size_alloc, World.size_setCell, World.size_drew] at hb4z); have hb4c0 := fun o => below_at hb4 (w.heap.size) o (by first | omega | (simp only [World.size_alloc, World.size_setCell, World.size_drew]; omega)); have hb4f0 := fun o => below_fr hb4 (w.heap.size) o (by first | omega | (simp only [World.size_alloc, World.size_setCell, World.size_drew]; omega)); have hb4l0 : w.heap.size < (w4).heap.size := (by omega)) | (go_at_call 93; (with_reducible refine (KY.out _ _ _ _ (ry3.below hb4)).mono ?_); rintro e w5 ⟨rfl, hb5⟩; have hb5z := Below.size hb5; (try simp only [World.size_alloc, World.size_setCell, World.size_drew] at hb5z); have hb5c0 := fun o => below_at hb5 (w.heap.size) o (by first | omega | (simp only [World.size_alloc, World.size_setCell, World.size_drew]; omega)); have hb5f0 := fun o => below_fr hb5 (w.heap.size) o (by first | omega | (simp only [World.size_alloc, World.size_setCell, World.size_drew]; omega)); have hb5l0 : w.heap.size < (w5).heap.size := (by omega)) | fail)
      go_ret
      exact ⟨by first | rfl | (unfold signTx; simp), (by have z0 := Below.size hb1; have z1 := Below.size hb2; have z2 := Below.size hb3; have z3 := Below.size hb4; have z4 := Below.size hb5; (try simp only [World.size_alloc, World.size_setCell, World.size_drew, size_drewN'] at z0 z1 z2 z3 z4 ⊢; skip); repeat' (first | (with_reducible exact Below.refl _ _) | (with_reducible assumption) | (with_reducible refine Below.alloc ?_ ?_ _) | (with_reducible refine Below.drew ?_) | (with_reducible refine below_drewN ?_ _) | (with_reducible refine Below.setCell ?_ ?_ _) | (with_reducible refine Below.trans ?_ (Below.mono (by with_reducible assumption) ?_)) | omega | (simp only [World.size_alloc, World.size_setCell, World.size_drew, size_drewN']; omega) | go_size))⟩
end Go.Proofs.YtglpknhcneggeaaGreatDoor
