/- Contracts of functions and lemmas, used by the proofs of the given statements. No condition beyond those that each lemma names. -/
import Derived.Test.YtnljncncnohncaaDoorLinX
namespace Go.Proofs.YtnljncncnohncaaDoor
open Go.RowKit
set_option linter.unusedSimpArgs false
set_option linter.unusedVariables false
set_option maxRecDepth 20000
attribute [local irreducible] nv wp win plainB validR valR canR
/-! ## the base's equalities, at what is equal; reference: has -/
theorem words_eq {w : World} {A B : Option Addr} {l : List Nat} {c d : Nat} (h : RdW w w.heap.size A l) (h' : RdW w w.heap.size B l) (hl : l.length ≤ 1000000000) :
    Calls Tryd.prog 55 #[.slice A l.length c, .slice B l.length d] w fun e w' => e = .returned (.bool true) ∧ Below w.heap.size w w' := by
  have HA := Lib.hid h
  have HB := Lib.hid h'
  clear h h'
  obtain ⟨n, hn⟩ : ∃ n, n = l.length := ⟨_, rfl⟩
  rw [← hn] at hl ⊢
  have HN := Lib.hid hn
  clear hn
  go_enter Tryd.func55, Tryd.ntmps55
  go_wp2
  go_loopw [13] (fun i wr => ∃ k : Nat, k ≤ n ∧ i = .int .i64 k ∧ Below w.heap.size w wr) (fun i _ => n - (intOf i).toNat)
  case atStart => exact ⟨0, Nat.zero_le _, rfl, Below.refl _ _⟩
  case round =>
    obtain ⟨k, hk, rfl, hb⟩ := hrel
    by_cases hlt : k < n
    · have hlt' : k < l.length := by rw [← HN.out]; exact hlt
      obtain ⟨b1, o1, rfl, hb1, hc1⟩ := HA.out.addr (by omega)
      obtain ⟨b2, o2, rfl, hb2, hc2⟩ := HB.out.addr (by omega)
      have e1 := hc1 k hlt'
      have e2 := hc2 k hlt'
      have f1 := (hb.cell (p := ⟨b1, o1 + k, none⟩) hb1).trans e1
      have f2 := (hb.cell (p := ⟨b2, o2 + k, none⟩) hb2).trans e2
      generalize l[k] = x at *
      have hk0 : (0 : Int) ≤ (k : Int) := by omega
      have hk1 : (k : Int) < (n : Int) := by omega
      clear hc1 hc2 e1 e2
      go_wp2
      go_region
      go_wp2
      go_roundw
      case rel => exact ⟨k + 1, by omega, by go_num, (by have z0 := Below.size hb; (try simp only [World.size_alloc, World.size_setCell, World.size_drew, size_drewN'] at z0 ⊢; skip); repeat' (first | (with_reducible exact Below.refl _ _) | (with_reducible assumption) | (with_reducible refine Below.alloc ?_ ?_ _) | (with_reducible refine Below.drew ?_) | (with_reducible refine below_drewN ?_ _) | (with_reducible refine Below.setCell ?_ ?_ _) | (with_reducible refine Below.trans ?_ (Below.mono (by with_reducible assumption) ?_)) | omega | (simp only [World.size_alloc, World.size_setCell, World.size_drew, size_drewN']; omega) | go_size))⟩
      case measure => simp [intOf]; omega
    · have : k = n := by omega
      subst this
      go_wp2
      go_ret
      exact ⟨rfl, hb⟩
theorem ratEq_any {w : World} {b0 b1 : Nat} {v u : Value} {q : Rat} (h : RdS w b0 v (canR q)) (h' : RdS w b1 u (canR q)) (hl : (canR q).2.1.length ≤ 1000000000 ∧ (canR q).2.2.length ≤ 1000000000) :
    Calls Tryd.prog 23 #[v, u] w fun e w' => e = .returned (.bool true) ∧ Below w.heap.size w w' := by
  obtain ⟨A, c, B, d, rfl, _, _, _, hA, hB, _, _⟩ := h
  obtain ⟨A', c', B', d', rfl, _, _, _, hA', hB', _, _⟩ := h'
  have K1 := Lib.hid (fun W (hb : Below w.heap.size w W) => words_eq (w := W) (c := c) (d := c') (hA.on hb hb.size) (hA'.on hb hb.size) hl.1)
  have K2 := Lib.hid (fun W (hb : Below w.heap.size w W) => words_eq (w := W) (c := d) (d := d') (hB.on hb hb.size) (hB'.on hb hb.size) hl.2)
  generalize (canR q).2.1.length = n1 at *
  generalize (canR q).2.2.length = n2 at *
  generalize (canR q).1 = s at *
  clear hA hB hA' hB' hl
  go_enter Tryd.func23, Tryd.ntmps23
  go_wp2_with (first | (go_at_call 55; (with_reducible refine (K1.out _ (by (skip); repeat' (first | (with_reducible exact Below.refl _ _) | (with_reducible assumption) | (with_reducible refine Below.alloc ?_ ?_ _) | (with_reducible refine Below.drew ?_) | (with_reducible refine below_drewN ?_ _) | (with_reducible refine Below.setCell ?_ ?_ _) | (with_reducible refine Below.trans ?_ (Below.mono (by with_reducible assumption) ?_)) | omega | (simp only [World.size_alloc, World.size_setCell, World.size_drew, size_drewN']; omega) | go_size))).mono ?_); rintro e w1 ⟨rfl, hb1⟩; have hb1z := Below.size hb1; (try simp only [World.size_alloc, World.size_setCell, World.size_drew] at hb1z); have hb1c0 := fun o => below_at hb1 (w.heap.size) o (by first | omega | (simp only [World.size_alloc, World.size_setCell, World.size_drew]; omega)); have hb1f0 := fun o => below_fr hb1 (w.heap.size) o (by first | omega | (simp only [World.size_alloc, World.size_setCell, World.size_drew]; omega)); have hb1l0 : w.heap.size < (w1).heap.size := (by omega); have hb1c1 := fun o => below_at hb1 (w.heap.size + 1) o (by first | omega | (simp only [World.size_alloc, World.size_setCell, World.size_drew]; omega)); have hb1f1 := fun o => below_fr hb1 (w.heap.size + 1) o (by first | omega | (simp only [World.size_alloc, World.size_setCell, World.size_drew]; omega)); have hb1l1 : w.heap.size + 1 < (w1).heap.size := (by omega)) | (go_at_call 55; (with_reducible refine (K2.out _ (by have z0 := Below.size hb1; (try simp only [World.size_alloc, World.size_setCell, World.size_drew, size_drewN'] at z0 ⊢; skip); repeat' (first | (with_reducible exact Below.refl _ _) | (with_reducible assumption) | (with_reducible refine Below.alloc ?_ ?_ _) | (with_reducible refine Below.drew ?_) | (with_reducible refine below_drewN ?_ _) | (with_reducible refine Below.setCell ?_ ?_ _) | (with_reducible refine Below.trans ?_ (Below.mono (by with_reducible assumption) ?_)) | omega | (simp only [World.size_alloc, World.size_setCell, World.size_drew, size_drewN']; omega) | go_size))).mono ?_); rintro e w2 ⟨rfl, hb2⟩; have hb2z := Below.size hb2; (try simp only [World.size_alloc, World.size_setCell, World.size_drew] at hb2z); have hb2c0 := fun o => below_at hb2 (w.heap.size) o (by first | omega | (simp only [World.size_alloc, World.size_setCell, World.size_drew]; omega)); have hb2f0 := fun o => below_fr hb2 (w.heap.size) o (by first | omega | (simp only [World.size_alloc, World.size_setCell, World.size_drew]; omega)); have hb2l0 : w.heap.size < (w2).heap.size := (by omega); have hb2c1 := fun o => below_at hb2 (w.heap.size + 1) o (by first | omega | (simp only [World.size_alloc, World.size_setCell, World.size_drew]; omega)); have hb2f1 := fun o => below_fr hb2 (w.heap.size + 1) o (by first | omega | (simp only [World.size_alloc, World.size_setCell, World.size_drew]; omega)); have hb2l1 : w.heap.size + 1 < (w2).heap.size := (by omega)) | fail)
  go_ret
  exact ⟨rfl, (by have z0 := Below.size hb1; have z1 := Below.size hb2; (try simp only [World.size_alloc, World.size_setCell, World.size_drew, size_drewN'] at z0 z1 ⊢; skip); repeat' (first | (with_reducible exact Below.refl _ _) | (with_reducible assumption) | (with_reducible refine Below.alloc ?_ ?_ _) | (with_reducible refine Below.drew ?_) | (with_reducible refine below_drewN ?_ _) | (with_reducible refine Below.setCell ?_ ?_ _) | (with_reducible refine Below.trans ?_ (Below.mono (by with_reducible assumption) ?_)) | omega | (simp only [World.size_alloc, World.size_setCell, World.size_drew, size_drewN']; omega) | go_size))⟩
theorem ints_eq {w : World} {b1 b2 : Nat} {A B : Option Addr} {c d : Nat} {l : List Nat} (h : OwI w b1 A c l) (h' : OwI w b2 B d l) (hl : l.length ≤ 1000000) :
    Calls Tryd.prog 32 #[.slice A l.length c, .slice B l.length d] w fun e w' => e = .returned (.bool true) ∧ Below w.heap.size w w' := by
  have HA := Lib.hid h
  have HB := Lib.hid h'
  clear h h'
  obtain ⟨n, hn⟩ : ∃ n, n = l.length := ⟨_, rfl⟩
  rw [← hn] at hl ⊢
  have HN := Lib.hid hn
  clear hn
  go_enter Tryd.func32, Tryd.ntmps32
  go_wp2
  go_loopw [13] (fun i wr => ∃ k : Nat, k ≤ n ∧ i = .int .i64 k ∧ Below w.heap.size w wr) (fun i _ => n - (intOf i).toNat)
  case atStart => exact ⟨0, Nat.zero_le _, rfl, Below.refl _ _⟩
  case round =>
    obtain ⟨k, hk, rfl, hb⟩ := hrel
    by_cases hlt : k < n
    · have hlt' : k < l.length := by rw [← HN.out]; exact hlt
      obtain ⟨g1, rfl, f1⟩ := (HA.out.below hb).at_ hlt'
      obtain ⟨g2, rfl, f2⟩ := (HB.out.below hb).at_ hlt'
      generalize l[k] = x at *
      have hk0 : (0 : Int) ≤ (k : Int) := by omega
      have hk1 : (k : Int) < (n : Int) := by omega
      go_wp2
      go_region
      go_wp2
      go_roundw
      case rel => exact ⟨k + 1, by omega, by go_num, (by have z0 := Below.size hb; (try simp only [World.size_alloc, World.size_setCell, World.size_drew, size_drewN'] at z0 ⊢; skip); repeat' (first | (with_reducible exact Below.refl _ _) | (with_reducible assumption) | (with_reducible refine Below.alloc ?_ ?_ _) | (with_reducible refine Below.drew ?_) | (with_reducible refine below_drewN ?_ _) | (with_reducible refine Below.setCell ?_ ?_ _) | (with_reducible refine Below.trans ?_ (Below.mono (by with_reducible assumption) ?_)) | omega | (simp only [World.size_alloc, World.size_setCell, World.size_drew, size_drewN']; omega) | go_size))⟩
      case measure => simp [intOf]; omega
    · have : k = n := by omega
      subst this
      go_wp2
      go_ret
      exact ⟨rfl, hb⟩
theorem mem_take' {p : List Nat} {t k : Nat} (ht : t < p.length) : k ∈ p.take (t + 1) ↔ k ∈ p.take t ∨ k = p[t] := by rw [List.take_succ_eq_append_getElem ht, List.mem_append, List.mem_singleton]
theorem has_any {w : World} {b1 : Nat} {A : Option Addr} {c x : Nat} {p : List Nat} (h : OwI w b1 A c p) (hl : p.length ≤ 1000000) :
    Calls Tryd.prog 42 #[.slice A p.length c, .int .i64 (x : Int)] w fun e w' => e = .returned (.bool (decide (x ∈ p))) ∧ Below w.heap.size w w' := by
  have HA := Lib.hid h
  clear h
  obtain ⟨n, hn⟩ : ∃ n, n = p.length := ⟨_, rfl⟩
  rw [← hn] at hl ⊢
  have HN := Lib.hid hn
  clear hn
  go_enter Tryd.func42, Tryd.ntmps42
  go_wp2
  go_loopw [9] (fun i wr => ∃ k : Nat, k ≤ n ∧ i = .int .i64 k ∧ x ∉ p.take k ∧ Below w.heap.size w wr) (fun i _ => n - (intOf i).toNat)
  case atStart => exact ⟨0, Nat.zero_le _, rfl, by simp, Below.refl _ _⟩
  case round =>
    obtain ⟨k, hk, rfl, hno, hb⟩ := hrel
    have HNO := Lib.hid hno
    clear hno
    by_cases hlt : k < n
    · have hlt' : k < p.length := by rw [← HN.out]; exact hlt
      obtain ⟨g1, rfl, f1⟩ := (HA.out.below hb).at_ hlt'
      have HM := Lib.hid (mem_take' (k := x) hlt')
      have HMEM : Hid (p[k] ∈ p) := List.getElem_mem hlt'
      generalize p[k] = y at *
      by_cases hy : y = x
      · subst hy
        go_wp2
        go_ret
        exact ⟨by rw [decide_eq_true HMEM.out]; rfl, hb⟩
      · have e1 : ((y : Int) == (x : Int)) = false := beq_eq_false_iff_ne.2 (by omega)
        have HNX : Hid (x ∉ p.take (k + 1)) := fun h => (HM.out.1 h).elim HNO.out (fun e => hy e.symm)
        clear hy
        go_wp2
        go_roundw
        case rel => exact ⟨k + 1, by omega, by go_num, HNX.out, hb⟩
        case measure => simp [intOf]; omega
    · have hkn : k = n := by omega
      have HNX : Hid (x ∉ p) := fun h => HNO.out (by rw [hkn, HN.out, List.take_length]; exact h)
      subst hkn
      go_wp2
      go_ret
      exact ⟨by rw [decide_eq_false HNX.out]; rfl, hb⟩
end Go.Proofs.YtnljncncnohncaaDoor
