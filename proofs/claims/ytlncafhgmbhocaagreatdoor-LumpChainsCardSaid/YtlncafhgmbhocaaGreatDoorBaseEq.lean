/- Contracts of functions and lemmas, used by the proofs of the given statements. No condition beyond those that each lemma names. -/
import Derived.Test.YtlncafhgmbhocaaGreatDoorLinMk
import Derived.Test.YtlncafhgmbhocaaGreatDoorJBase
namespace Go.Proofs.YtlncafhgmbhocaaGreatDoor
open Go.RowKit
set_option linter.unusedSimpArgs false
set_option linter.unusedVariables false
set_option maxRecDepth 20000
attribute [local irreducible] nv wp win plainB validR valR canR
/-! ## faultlinebase: Num, Words, Rat, Rats -/
set_option maxHeartbeats 2000000 in
theorem words_same {w : World} {A B : Option Addr} {n c d : Nat} {l : List Nat} (h : RdW w w.heap.size A l) (h' : RdW w w.heap.size B l) (hl : l.length = n) (hn : n ≤ 1000000) :
    Calls Tryz.prog 82 #[.slice A n c, .slice B n d] w fun e w' => e = .returned (.bool true) ∧ Below w.heap.size w w' := by
  have HA := Lib.hid h
  have HB := Lib.hid h'
  have HL := Lib.hid hl
  have e0 : ((n : Int) != (n : Int)) = false := by simp
  clear h h' hl
  go_enter Tryz.func82, Tryz.ntmps82
  go_wp2
  go_loopw [13] (fun i wr => ∃ k : Nat, k ≤ n ∧ i = .int .i64 (k : Int) ∧ Below w.heap.size w wr) (fun i _ => n - (intOf i).toNat)
  case atStart => exact ⟨0, Nat.zero_le _, rfl, Below.refl _ _⟩
  case round =>
    obtain ⟨k, hk, rfl, hb⟩ := hrel
    by_cases hlt : k < n
    · obtain ⟨ba, oa, rfl, hba, f0⟩ := HA.out.at_ (show k < l.length by rw [HL.out]; exact hlt)
      obtain ⟨bb, ob, rfl, hbb, f1⟩ := HB.out.at_ (show k < l.length by rw [HL.out]; exact hlt)
      have g0 := (hb.cell (p := ⟨ba, oa + k, none⟩) hba).trans f0
      have g1 := (hb.cell (p := ⟨bb, ob + k, none⟩) hbb).trans f1
      generalize l[k]'(by rw [HL.out]; exact hlt) = x at *
      have e1 : ((x : Int) != (x : Int)) = false := by simp
      have x0 := fun y : Sub wr => y.cell g0
      have x1 := fun y : Sub wr => y.cell g1
      have hk0 : (0 : Int) ≤ (k : Int) := by omega
      have hki : (k : Int) < (n : Int) := by omega
      clear f0 f1 g0 g1
      go_wp2
      ((refine wp_region_quiet_bel (by kernel_rfl) (by kernel_rfl) ?_); (repeat (go_big_quiet_step (fail))); (refine wpQuiet_nil ?_); rintro w5 ⟨⟨_, hb5⟩, rfl⟩; (try dsimp only))
      go_wp2
      go_roundw
      case rel => exact ⟨k + 1, by omega, by go_num, hb.trans (hb5.mono hb.size)⟩
      case measure => simp [intOf]; omega
    · go_wp2
      go_ret
      exact ⟨rfl, hb⟩
theorem RdS.parts {w : World} {b0 : Nat} {v : Value} {r : Rw} (h : RdS w b0 v r) : ∃ A c B d, v = rv r.1 A r.2.1.length c B r.2.2.length d ∧ RdW w w.heap.size A r.2.1 ∧ RdW w w.heap.size B r.2.2 := by
  obtain ⟨A, c, B, d, e, _, _, _, hA, hB, _⟩ := h
  exact ⟨A, c, B, d, e, hA, hB⟩
set_option maxHeartbeats 2000000 in
theorem rat_same {w : World} {b0 b1 : Nat} {v u : Value} {r : Rw} (h : RdS w b0 v r) (h' : RdS w b1 u r) (h1 : r.2.1.length ≤ 1000000) (h2 : r.2.2.length ≤ 1000000) :
    Calls Tryz.prog 50 #[v, u] w fun e w' => e = .returned (.bool true) ∧ Below w.heap.size w w' := by
  obtain ⟨A, c, B, d, rfl, hA, hB⟩ := h.parts
  obtain ⟨A', c', B', d', rfl, hA', hB'⟩ := h'.parts
  have K1 := Lib.hid (fun W (hb : Below w.heap.size w W) => words_same (c := c) (d := c') (hA.on hb hb.size) (hA'.on hb hb.size) rfl h1)
  have K2 := Lib.hid (fun W (hb : Below w.heap.size w W) => words_same (c := d) (d := d') (hB.on hb hb.size) (hB'.on hb hb.size) rfl h2)
  clear h h' hA hA' hB hB'
  obtain ⟨s, l, m⟩ := r
  simp only at *
  generalize l.length = n at *
  generalize m.length = n' at *
  have e0 : (s == s) = true := by simp
  go_enter Tryz.func50, Tryz.ntmps50
  (go_wp2_with fail; (with_reducible refine (K1.out _ (by (skip); repeat' (first | (with_reducible exact Below.refl _ _) | (with_reducible assumption) | (with_reducible refine Below.alloc ?_ ?_ _) | (with_reducible refine Below.drew ?_) | (with_reducible refine below_drewN ?_ _) | (with_reducible refine Below.setCell ?_ ?_ _) | (with_reducible refine Below.trans ?_ (Below.mono (by with_reducible assumption) ?_)) | omega | (simp only [ZA, ZS, ZD, ZN]; omega) | go_size))).mono ?_); rintro e w1 ⟨rfl, hb1⟩; have hb1z := Below.size hb1; (try simp only [ZA, ZS, ZD, ZN] at hb1z); have hb1c0 := fun o => below_at hb1 (w.heap.size) o (by first | omega | (simp only [ZA, ZS, ZD, ZN]; omega)); have hb1f0 := fun o => below_fr hb1 (w.heap.size) o (by first | omega | (simp only [ZA, ZS, ZD, ZN]; omega)); have hb1c1 := fun o => below_at hb1 (w.heap.size + 1) o (by first | omega | (simp only [ZA, ZS, ZD, ZN]; omega)); have hb1f1 := fun o => below_fr hb1 (w.heap.size + 1) o (by first | omega | (simp only [ZA, ZS, ZD, ZN]; omega)))
  (go_wp2_with fail; (with_reducible refine (K2.out _ (by have z0 := Below.size hb1; (try simp only [ZA, ZS, ZD, ZN] at z0 ⊢; skip); repeat' (first | (with_reducible exact Below.refl _ _) | (with_reducible assumption) | (with_reducible refine Below.alloc ?_ ?_ _) | (with_reducible refine Below.drew ?_) | (with_reducible refine below_drewN ?_ _) | (with_reducible refine Below.setCell ?_ ?_ _) | (with_reducible refine Below.trans ?_ (Below.mono (by with_reducible assumption) ?_)) | omega | (simp only [ZA, ZS, ZD, ZN]; omega) | go_size))).mono ?_); rintro e w2 ⟨rfl, hb2⟩; have hb2z := Below.size hb2; (try simp only [ZA, ZS, ZD, ZN] at hb2z))
  go_wp2
  go_ret
  exact ⟨rfl, (by have z0 := Below.size hb1; have z1 := Below.size hb2; (try simp only [ZA, ZS, ZD, ZN] at z0 z1 ⊢; skip); repeat' (first | (with_reducible exact Below.refl _ _) | (with_reducible assumption) | (with_reducible refine Below.alloc ?_ ?_ _) | (with_reducible refine Below.drew ?_) | (with_reducible refine below_drewN ?_ _) | (with_reducible refine Below.setCell ?_ ?_ _) | (with_reducible refine Below.trans ?_ (Below.mono (by with_reducible assumption) ?_)) | omega | (simp only [ZA, ZS, ZD, ZN]; omega) | go_size))⟩
end Go.Proofs.YtlncafhgmbhocaaGreatDoor
