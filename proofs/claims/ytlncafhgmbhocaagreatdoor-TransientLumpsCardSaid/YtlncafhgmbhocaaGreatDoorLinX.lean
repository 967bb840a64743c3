/- Contracts of functions and lemmas, used by the proofs of the given statements. No condition beyond those that each lemma names. -/
import Derived.Test.YtlncafhgmbhocaaGreatDoorJOpenNum
import Derived.Test.YtlncafhgmbhocaaGreatDoorJBase
import Derived.Test.YtlncafhgmbhocaaGreatDoorJTextC
namespace Go.Proofs.YtlncafhgmbhocaaGreatDoor
open Go.RowKit
set_option linter.unusedSimpArgs false
set_option linter.unusedVariables false
set_option maxRecDepth 20000
/-! ## the free columns (plain) -/
/-! ## a row of bools of the call's own -/
def bls (n : Nat) (f : Nat → Bool) : List Value := (List.range n).map fun j => .bool (f j)
theorem bls_set {n : Nat} {f : Nat → Bool} {k : Nat} {b : Bool} : (bls n f).set k (.bool b) = bls n (upd f k b) := by
  apply List.ext_getElem?
  intro j
  by_cases h : j = k
  · subst h
    by_cases hn : j < n
    · rw [List.getElem?_set_self (by simp [bls]; exact hn)]; simp [bls, hn, upd]
    · rw [List.getElem?_eq_none (by simp [bls]; omega), List.getElem?_eq_none (by simp [bls]; omega)]
  · rw [List.getElem?_set_ne (Ne.symm h)]
    by_cases hn : j < n
    · simp [bls, hn, upd, h]
    · rw [List.getElem?_eq_none (by simp [bls]; omega), List.getElem?_eq_none (by simp [bls]; omega)]
def OwB (w : World) (base : Nat) (A : Option Addr) (c n : Nat) (f : Nat → Bool) : Prop := w.ownsRow base 4 1 (.slice A n c) n (bls n f)
section
variable {w w' w1 : World} {base g c n k : Nat} {A : Option Addr} {f : Nat → Bool}
theorem OwB.below (h : OwB w base A c n f) (hb : Below w.heap.size w w1) : OwB w1 base A c n f := own_below h hb
theorem OwB.at_ (h : OwB w base (some ⟨g, 0, none⟩) c n f) (hk : k < n) : w.cell? ⟨g, k, none⟩ = some (.bool (f k)) := by
  rw [World.ownsRow.cellAt h k (by omega)]
  simp [bls, hk]
theorem OwB.frozen (h : OwB w base (some ⟨g, 0, none⟩) c n f) (k : Nat) : w.frozen? ⟨g, k, none⟩ = false := World.ownsRow.frozenAt h k
theorem OwB.set (h : OwB w base (some ⟨g, 0, none⟩) c n f) (k : Nat) (b : Bool) : OwB (w.setCell ⟨g, k, none⟩ (.bool b)) base (some ⟨g, 0, none⟩) c n (upd f k b) ∧ w.grownBy (w.setCell ⟨g, k, none⟩ (.bool b)) (some g) := by
  obtain ⟨s1, g1⟩ := World.ownsRow.stored h k (.bool b)
  rw [bls_set] at s1
  exact ⟨s1, g1⟩
theorem boolInfo : (Tryz.prog.info? 4).map (fun i => (i.zero, i.size, i.bytes)) = some (some (.bool false), 1, 1) := by kernel_rfl
/-- is := make([]bool, n) -/
theorem wpList_makeB {ops : Array Oper} {rest : List Oper} {o : Oper} {a : Act} {Q : Exit → Act → World → Prop}
    (hg : o.guard = none) (l c : Operand) (hop : o.op = Op.makeSlice 23 l c)
    (b0 n : Nat) (L C : Int) (hl : a.eval l = .int .i64 L) (hc : a.eval c = .int .i64 C) (hL : L = (n : Int)) (hC : C = (n : Int)) (hn : n ≤ 1000000) (hb : b0 ≤ w.heap.size)
    (h : ∀ w', OwB w' b0 (some ⟨w.heap.size, 0, none⟩) n n (fun _ => false) → Below w.heap.size w w' → wpList Tryz.prog ops Q rest (a.put o.dst (.slice (some ⟨w.heap.size, 0, none⟩) n n)) w') : wpList Tryz.prog ops Q (o :: rest) a w := by
  obtain ⟨i, hi, hz, hs, hby⟩ := info_parts boolInfo
  refine wpList_make_full w hg l c 23 hop b0 4 i (.bool false) 1 Tryz.underlying23 hi hz hs .i64 .i64 L C n hl hc hL hC (by rw [hby]; omega) (by unfold maxLen; omega) hb ?_
  intro w' h1 h2
  have e : (madeCells (Value.cells (.bool false)) (n * 1)).toList = bls n (fun _ => false) := by
    rw [Nat.mul_one]
    show (madeCells #[Value.bool false] n).toList = _
    rw [toList_madeCells_one]
    apply List.ext_getElem (by simp [bls])
    intro j h1 h2
    simp [bls]
  rw [e] at h1
  exact h w' h1 ((Below.refl _ _).grown h2 (Nat.le_refl _) (by intro k hk; cases hk))
end
attribute [local irreducible] nv wp win plainB validR valR canR gj findR elim swp
/-! ## package linear: Kernel -/
end Go.Proofs.YtlncafhgmbhocaaGreatDoor
