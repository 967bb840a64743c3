/- Contracts of functions and lemmas, used by the proofs of the given statements. No condition beyond those that each lemma names. -/
import Derived.Test.YtmebdlilbnadgaaGreatDoorLinX
namespace Go.Proofs.YtmebdlilbnadgaaGreatDoor
open Go.RowKit
set_option linter.unusedSimpArgs false
set_option linter.unusedVariables false
set_option maxRecDepth 20000
attribute [local irreducible] nv wp win plainB validR valR canR
/-! ## the base's equalities, at what is equal; reference: has -/
theorem ints_eq {w : World} {b1 b2 : Nat} {A B : Option Addr} {c d : Nat} {l : List Nat} (h : OwI w b1 A c l) (h' : OwI w b2 B d l) (hl : l.length ≤ 1000000) :
    Calls Tryz.prog 58 #[.slice A l.length c, .slice B l.length d] w fun e w' => e = .returned (.bool true) ∧ Below w.heap.size w w' := by
  have HA := Lib.hid h
  have HB := Lib.hid h'
  clear h h'
  obtain ⟨n, hn⟩ : ∃ n, n = l.length := ⟨_, rfl⟩
  rw [← hn] at hl ⊢
  have HN := Lib.hid hn
  clear hn
  go_enter Tryz.func58, Tryz.ntmps58
  go_wp2
  go_loopw [13] (fun i wr => ∃ k : Nat, k ≤ n ∧ i = .int .i64 k ∧ Below w.heap.size w wr) (fun i _ => n - (intOf i).toNat)
  case atStart => exact ⟨0, Nat.zero_le _, rfl, Below.refl _ _⟩
  case round =>
    obtain ⟨k, hk, rfl, hb⟩ := hrel
    by_cases hlt : k < n
    · have hlt' : k < l.length := by rw [← HN.out]; exact hlt
      obtain ⟨g1, rfl, f1⟩ := (HA.out.below hb).at_ hlt'
      obtain ⟨g2, rfl, f2⟩ := (HB.out.below hb).at_ hlt'
      generalize l[k] = x at *
      have hk0 : (0 : Int) ≤ (k : Int) := by omega
      have hk1 : (k : Int) < (n : Int) := by omega
      go_wp2
      go_region
      go_wp2
      go_roundw
      case rel => exact ⟨k + 1, by omega, by go_num, (by have z0 := Below.size hb; (try simp only [ZA, ZS, ZD, ZN] at z0 ⊢; skip); repeat' (first | (with_reducible exact Below.refl _ _) | (with_reducible assumption) | (with_reducible refine Below.alloc ?_ ?_ _) | (with_reducible refine Below.drew ?_) | (with_reducible refine below_drewN ?_ _) | (with_reducible refine Below.setCell ?_ ?_ _) | (with_reducible refine Below.trans ?_ (Below.mono (by with_reducible assumption) ?_)) | omega | (simp only [ZA, ZS, ZD, ZN]; omega) | go_size))⟩
      case measure => simp [intOf]; omega
    · have : k = n := by omega
      subst this
      go_wp2
      go_ret
      exact ⟨rfl, hb⟩
theorem mem_take' {p : List Nat} {t k : Nat} (ht : t < p.length) : k ∈ p.take (t + 1) ↔ k ∈ p.take t ∨ k = p[t] := by rw [List.take_succ_eq_append_getElem ht, List.mem_append, List.mem_singleton]
theorem has_any {w : World} {b1 : Nat} {A : Option Addr} {c x : Nat} {p : List Nat} (h : OwI w b1 A c p) (hl : p.length ≤ 1000000) :
    Calls Tryz.prog 104 #[.slice A p.length c, .int .i64 (x : Int)] w fun e w' => e = .returned (.bool (decide (x ∈ p))) ∧ Below w.heap.size w w' := by
  have HA := Lib.hid h
  clear h
  obtain ⟨n, hn⟩ : ∃ n, n = p.length := ⟨_, rfl⟩
  rw [← hn] at hl ⊢
  have HN := Lib.hid hn
  clear hn
  go_enter Tryz.func104, Tryz.ntmps104
  go_wp2
  go_loopw [9] (fun i wr => ∃ k : Nat, k ≤ n ∧ i = .int .i64 k ∧ x ∉ p.take k ∧ Below w.heap.size w wr) (fun i _ => n - (intOf i).toNat)
  case atStart => exact ⟨0, Nat.zero_le _, rfl, by simp, Below.refl _ _⟩
  case round =>
    obtain ⟨k, hk, rfl, hno, hb⟩ := hrel
    have HNO := Lib.hid hno
    clear hno
    by_cases hlt : k < n
    · have hlt' : k < p.length := by rw [← HN.out]; exact hlt
      obtain ⟨g1, rfl, f1⟩ := (HA.out.below hb).at_ hlt'
      have HM := Lib.hid (mem_take' (k := x) hlt')
      have HMEM : Hid (p[k] ∈ p) := List.getElem_mem hlt'
      generalize p[k] = y at *
      by_cases hy : y = x
      · subst hy
        go_wp2
        go_ret
        exact ⟨by rw [decide_eq_true HMEM.out]; rfl, hb⟩
      · have e1 : ((y : Int) == (x : Int)) = false := beq_eq_false_iff_ne.2 (by omega)
        have HNX : Hid (x ∉ p.take (k + 1)) := fun h => (HM.out.1 h).elim HNO.out (fun e => hy e.symm)
        clear hy
        go_wp2
        go_roundw
        case rel => exact ⟨k + 1, by omega, by go_num, HNX.out, hb⟩
        case measure => simp [intOf]; omega
    · have hkn : k = n := by omega
      have HNX : Hid (x ∉ p) := fun h => HNO.out (by rw [hkn, HN.out, List.take_length]; exact h)
      subst hkn
      go_wp2
      go_ret
      exact ⟨by rw [decide_eq_false HNX.out]; rfl, hb⟩
end Go.Proofs.YtmebdlilbnadgaaGreatDoor
