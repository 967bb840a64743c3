/- Contracts of functions and lemmas, used by the proofs of the given statements. No condition beyond those that each lemma names. -/
import Derived.Test.YtlncafhgmbhocaaGreatDoorJTrZ
namespace Go.Proofs.YtlncafhgmbhocaaGreatDoor
open Go.RowKit
set_option linter.unusedSimpArgs false
set_option linter.unusedVariables false
set_option maxRecDepth 20000
attribute [local irreducible] nv wp win plainB validR valR canR mvE chkM codeC exK maxF dsum
/-! ## the laws' Few and brief -/
theorem RdS.lens' {w : World} {b0 : Nat} {s : Bool} {A B : Option Addr} {n c m d : Nat} {r : Rw} (h : RdS w b0 (rv s A n c B m d) r) : r.2.1.length = n ∧ r.2.2.length = m ∧ n ≤ c ∧ m ≤ d ∧ RdW w w.heap.size B r.2.2 := by
  obtain ⟨A', c', B', d', e, hc, hd, _, _, hB, _⟩ := h
  unfold rv at e
  injection e with e
  simp at e
  obtain ⟨-, ⟨-, rfl, rfl⟩, ⟨rfl, rfl, rfl⟩⟩ := e
  exact ⟨rfl, rfl, hc, hd, hB⟩
def RetB (P : Prop) (e : Ending) : Prop := ∃ b : Bool, e = .returned (.bool b) ∧ (b = true → P)
theorem retB_f {P : Prop} : RetB P (.returned (.bool false)) := ⟨false, rfl, fun h => nomatch h⟩
theorem retB_t {P : Prop} (h : P) : RetB P (.returned (.bool true)) := ⟨true, rfl, fun _ => h⟩
/-- few, short numbers -/
def Brief (n : Nat) (R : Nat → Rw) : Prop := n ≤ 300 ∧ ∀ k, k < n → (R k).2.1.length ≤ 4 ∧ (R k).2.2.length ≤ 4
set_option maxHeartbeats 4000000 in
theorem brief_any {w : World} {b0 n c : Nat} {A : Option Addr} {R : Nat → Rw} (h : RowA w b0 A n R) :
    Calls Tryz.prog 69 #[.slice A n c] w fun e w' => RetB (Brief n R) e ∧ Below w.heap.size w w' := by
  have HA := Lib.hid h
  clear h
  by_cases h3 : 300 < n
  · have e1 : decide ((300 : Int) < (n : Int)) = true := by simp; omega
    go_enter Tryz.func69, Tryz.ntmps69
    go_wp2
    go_ret
    exact ⟨retB_f, Below.refl _ _⟩
  · have e1 : decide ((300 : Int) < (n : Int)) = false := by simp; omega
    have hn : n ≤ 300 := by omega
    clear h3
    go_enter Tryz.func69, Tryz.ntmps69
    go_wp2
    go_loopw [10] (fun i wr => ∃ k : Nat, k ≤ n ∧ i = .int .i64 (k : Int) ∧ (∀ j, j < k → (R j).2.1.length ≤ 4 ∧ (R j).2.2.length ≤ 4) ∧ Below w.heap.size w wr) (fun i _ => n - (intOf i).toNat)
    case atStart => exact ⟨0, Nat.zero_le _, rfl, fun j hj => by omega, Below.refl _ _⟩
    case round =>
      obtain ⟨k, hk, rfl, hv, hb⟩ := hrel
      have HV := Lib.hid hv
      clear hv
      by_cases hlt : k < n
      · obtain ⟨b, off, s1, A1, n1, c1, B1, m1, d1, rfl, hbb, f0, f1, f2, r1⟩ := HA.out.at_ hlt
        obtain ⟨l1, l2, -, -, -⟩ := r1.lens'
        have x0 := (hb.cell (lt_of_cell f0)).trans f0
        have x1 := (hb.cell (lt_of_cell f1)).trans f1
        have x2 := (hb.cell (lt_of_cell f2)).trans f2
        have hk0 : (0 : Int) ≤ (k : Int) := by omega
        have hki : (k : Int) < (n : Int) := by omega
        have HL1 := Lib.hid l1
        have HL2 := Lib.hid l2
        have hb9 : ∀ o, Below w.heap.size w (wr.alloc o) := fun o => hb.trans ((Below.refl _ _).alloc hb.size o)
        clear f0 f1 f2 r1 l1 l2
        by_cases hn1 : 4 < n1
        · have e2 : decide ((4 : Int) < (n1 : Int)) = true := by simp; omega
          go_wp2
          go_ret
          exact ⟨retB_f, hb9 _⟩
        · have e2 : decide ((4 : Int) < (n1 : Int)) = false := by simp; omega
          by_cases hn2 : 4 < m1
          · have e3 : decide ((4 : Int) < (m1 : Int)) = true := by simp; omega
            go_wp2
            go_ret
            exact ⟨retB_f, hb9 _⟩
          · have e3 : decide ((4 : Int) < (m1 : Int)) = false := by simp; omega
            go_wp2
            go_roundw
            case rel =>
              refine ⟨k + 1, by omega, by go_num, fun j hj => ?_, hb9 _⟩
              by_cases e : j = k
              · rw [e, HL1.out, HL2.out]; omega
              · exact HV.out j (by omega)
            case measure => simp [intOf]; omega
      · have hkn : k = n := by omega
        subst hkn
        go_wp2
        go_ret
        exact ⟨retB_t ⟨hn, HV.out⟩, hb⟩
end Go.Proofs.YtlncafhgmbhocaaGreatDoor
