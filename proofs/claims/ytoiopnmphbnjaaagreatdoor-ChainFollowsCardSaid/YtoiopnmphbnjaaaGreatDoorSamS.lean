/- Contracts of functions and lemmas, used by the proofs of the given statements. No condition beyond those that each lemma names. -/
import Derived.Test.YtoiopnmphbnjaaaGreatDoorRowB
import Derived.BigQuiet
namespace Go.Proofs.YtoiopnmphbnjaaaGreatDoor
open Go.RowKit
set_option linter.unusedSimpArgs false
set_option linter.unusedVariables false
set_option maxRecDepth 20000
/-! ## base: Ints; ref48: SameState -/
def RetIf (P : Prop) (e : Ending) : Prop := ∃ b : Bool, e = .returned (.bool b) ∧ (b = true ↔ P)
theorem retIf_t {P : Prop} (h : P) : RetIf P (.returned (.bool true)) := ⟨true, rfl, fun _ => h, fun _ => rfl⟩
theorem retIf_f {P : Prop} (h : ¬ P) : RetIf P (.returned (.bool false)) := ⟨false, rfl, fun h => (by cases h), fun h' => absurd h' h⟩
set_option maxHeartbeats 4000000 in
theorem ints_any9 {w : World} {A B : Option Addr} {n m c d : Nat} {p q : Nat → Int} (h : RdJ w A n p) (h' : RdJ w B m q) (hn : n ≤ 1000000) :
    Calls Tryz.prog 56 #[.slice A n c, .slice B m d] w fun e w' => RetIf (n = m ∧ ∀ i, i < n → p i = q i) e ∧ Below w.heap.size w w' := by
  have HA := Lib.hid h
  have HB := Lib.hid h'
  clear h h'
  by_cases hnm : n = m
  · subst hnm
    have HP : Hid (∀ P, P = (n = n ∧ ∀ i, i < n → p i = q i) → ((∀ i, i < n → p i = q i) → P) ∧ (∀ i, i < n → p i ≠ q i → ¬ P)) := fun P hP => by
      subst hP
      exact ⟨fun h => ⟨rfl, h⟩, fun i hi hne hh => hne (hh.2 i hi)⟩
    generalize hPe : (n = n ∧ ∀ i, i < n → p i = q i) = P
    have HP2 := Lib.hid (HP.out P hPe.symm)
    clear HP hPe
    have e0 : ((n : Int) != (n : Int)) = false := by simp
    go_enter Tryz.func56, Tryz.ntmps56
    go_wp2_with fail
    go_loopw [13] (fun i wr => ∃ k : Nat, k ≤ n ∧ i = .int .i64 (k : Int) ∧ (∀ j, j < k → p j = q j) ∧ Below w.heap.size w wr) (fun i _ => n - (intOf i).toNat)
    case atStart => exact ⟨0, Nat.zero_le _, rfl, fun j hj => absurd hj (Nat.not_lt_zero _), Below.refl _ _⟩
    case round =>
      obtain ⟨k, hk, rfl, hv, hb⟩ := hrel
      have HV := Lib.hid hv
      clear hv
      by_cases hlt : k < n
      · obtain ⟨b1, o1, rfl, hb1, c1⟩ := HA.out.later (Below.refl _ _) hlt
        obtain ⟨b2, o2, rfl, hb2, c2⟩ := HB.out.later (Below.refl _ _) hlt
        have x1 := (hb.cell (lt_of_cell c1)).trans c1
        have x2 := (hb.cell (lt_of_cell c2)).trans c2
        have hk0 : (0 : Int) ≤ (k : Int) := by omega
        have hki : (k : Int) < (n : Int) := by omega
        clear c1 c2
        by_cases e : p k = q k
        · have e1 : (p k != q k) = false := by rw [e]; simp
          have HE := Lib.hid e
          clear e
          go_wp2_with fail
          go_region
          go_wp2_with fail
          go_roundw
          case rel =>
            refine ⟨k + 1, by omega, by go_num, fun j hj => ?_, (by have z0 := Below.size hb; (try simp only [ZA, ZS, ZD, ZN] at z0 ⊢; skip); repeat' (first | (with_reducible exact Below.refl _ _) | (with_reducible assumption) | (with_reducible refine Below.alloc ?_ ?_ _) | (with_reducible refine Below.drew ?_) | (with_reducible refine below_drewN ?_ _) | (with_reducible refine Below.setCell ?_ ?_ _) | (with_reducible refine Below.trans ?_ (Below.mono (by with_reducible assumption) ?_)) | omega | (simp only [ZA, ZS, ZD, ZN]; omega) | go_size))⟩
            by_cases e : j = k
            · rw [e]; exact HE.out
            · exact HV.out j (by omega)
          case measure => simp [intOf]; omega
        · have e1 : (p k != q k) = true := by simpa using e
          have HE := Lib.hid (HP2.out.2 k hlt e)
          clear e
          go_wp2_with fail
          go_region
          go_wp2_with fail
          go_ret
          exact ⟨retIf_f HE.out, (by have z0 := Below.size hb; (try simp only [ZA, ZS, ZD, ZN] at z0 ⊢; skip); repeat' (first | (with_reducible exact Below.refl _ _) | (with_reducible assumption) | (with_reducible refine Below.alloc ?_ ?_ _) | (with_reducible refine Below.drew ?_) | (with_reducible refine below_drewN ?_ _) | (with_reducible refine Below.setCell ?_ ?_ _) | (with_reducible refine Below.trans ?_ (Below.mono (by with_reducible assumption) ?_)) | omega | (simp only [ZA, ZS, ZD, ZN]; omega) | go_size))⟩
      · obtain rfl : k = n := by omega
        have HE := Lib.hid (HP2.out.1 HV.out)
        go_wp2_with fail
        go_ret
        exact ⟨retIf_t HE.out, hb⟩
  · have e0 : ((n : Int) != (m : Int)) = true := by simp; omega
    have HE : Hid (¬ (n = m ∧ ∀ i, i < n → p i = q i)) := fun h => hnm h.1
    clear hnm HA HB
    go_enter Tryz.func56, Tryz.ntmps56
    go_wp2_with fail
    go_ret
    exact ⟨retIf_f HE.out, Below.refl _ _⟩
set_option maxHeartbeats 4000000 in
theorem sameS_any {w : World} {A B : Option Addr} {n m c d : Nat} {F G : Int} {p q : Nat → Int} (h : RdJ w A n p) (h' : RdJ w B m q) (hn : n ≤ 1000000) :
    Calls Tryz.prog 16 #[.agg #[.int .i64 F, .slice A n c], .agg #[.int .i64 G, .slice B m d]] w fun e w' => RetIf (F = G ∧ n = m ∧ ∀ i, i < n → p i = q i) e ∧ Below w.heap.size w w' := by
  have K := Lib.hid (fun W (hb : Below w.heap.size w W) => ints_any9 (c := c) (d := d) (h.below hb) (h'.below hb) hn)
  clear h h'
  by_cases e : F = G
  · have e1 : (F == G) = true := by rw [e]; simp
    have HP : Hid (∀ b : Bool, (b = true ↔ (n = m ∧ ∀ i, i < n → p i = q i)) → (b = true ↔ (F = G ∧ n = m ∧ ∀ i, i < n → p i = q i))) := fun b hb => ⟨fun h => ⟨e, hb.1 h⟩, fun h => hb.2 h.2⟩
    clear e
    go_enter Tryz.func16, Tryz.ntmps16
    go_wp2_with fail
    refine (K.out _ (by (skip); repeat' (first | (with_reducible exact Below.refl _ _) | (with_reducible assumption) | (with_reducible refine Below.alloc ?_ ?_ _) | (with_reducible refine Below.drew ?_) | (with_reducible refine below_drewN ?_ _) | (with_reducible refine Below.setCell ?_ ?_ _) | (with_reducible refine Below.trans ?_ (Below.mono (by with_reducible assumption) ?_)) | omega | (simp only [ZA, ZS, ZD, ZN]; omega) | go_size))).mono ?_
    rintro e w5 ⟨⟨b, rfl, hb⟩, hb5⟩
    have HB := Lib.hid (HP.out b hb)
    have hbF : Below w.heap.size w w5 := (by have z0 := Below.size hb5; (try simp only [ZA, ZS, ZD, ZN] at z0 ⊢; skip); repeat' (first | (with_reducible exact Below.refl _ _) | (with_reducible assumption) | (with_reducible refine Below.alloc ?_ ?_ _) | (with_reducible refine Below.drew ?_) | (with_reducible refine below_drewN ?_ _) | (with_reducible refine Below.setCell ?_ ?_ _) | (with_reducible refine Below.trans ?_ (Below.mono (by with_reducible assumption) ?_)) | omega | (simp only [ZA, ZS, ZD, ZN]; omega) | go_size))
    clear hb hb5 HP
    go_wp2_with fail
    go_ret
    exact ⟨⟨b, rfl, HB.out⟩, hbF⟩
  · have e1 : (F == G) = false := by simpa using e
    have HE : Hid (¬ (F = G ∧ n = m ∧ ∀ i, i < n → p i = q i)) := fun h => e h.1
    clear e K
    go_enter Tryz.func16, Tryz.ntmps16
    go_wp2_with fail
    go_ret
    exact ⟨retIf_f HE.out, (by (skip); repeat' (first | (with_reducible exact Below.refl _ _) | (with_reducible assumption) | (with_reducible refine Below.alloc ?_ ?_ _) | (with_reducible refine Below.drew ?_) | (with_reducible refine below_drewN ?_ _) | (with_reducible refine Below.setCell ?_ ?_ _) | (with_reducible refine Below.trans ?_ (Below.mono (by with_reducible assumption) ?_)) | omega | (simp only [ZA, ZS, ZD, ZN]; omega) | go_size))⟩
end Go.Proofs.YtoiopnmphbnjaaaGreatDoor
