/- Contracts of functions and lemmas, used by the proofs of the given statements. No condition beyond those that each lemma names. -/
import Derived.Test.YtoiopnmphbnjaaaGreatDoorLinDef
import Derived.Deep.AppendLies
import Derived.Test.YtoiopnmphbnjaaaGreatDoorRowB
import Derived.Test.YtoiopnmphbnjaaaGreatDoorJBase
namespace Go.Proofs.YtoiopnmphbnjaaaGreatDoor
open Go.RowKit
set_option linter.unusedSimpArgs false
set_option linter.unusedVariables false
/-! ## slices of fractions in memory -/
/-- a slice that reads as the fractions R -/
def RowA (w : World) (b0 : Nat) (A : Option Addr) (n : Nat) (R : Nat → Rw) : Prop :=
  ∃ V, (∀ k, k < n → RdS w b0 (V k) (R k)) ∧ Rds w w.heap.size 3 A n (cellsV n V)
/-- .. in a row that a call has made -/
def OwR (w : World) (b0 : Nat) (A : Option Addr) (c n : Nat) (R : Nat → Rw) : Prop :=
  ∃ V, (∀ k, k < n → RdS w b0 (V k) (R k)) ∧ w.ownsRow b0 56 3 (.slice A n c) n (cellsV n V)
section
variable {b0 n c g : Nat} {w w' : World} {A : Option Addr} {R U : Nat → Rw}
theorem RdS.isR {v : Value} {r : Rw} (h : RdS w b0 v r) : isR v := h.form
theorem OwR.congr (h : OwR w b0 A c n R) (e : ∀ k, k < n → R k = U k) : OwR w b0 A c n U := by
  obtain ⟨V, h1, h2⟩ := h
  exact ⟨V, fun k hk => e k hk ▸ h1 k hk, h2⟩
theorem OwR.ra (h : OwR w b0 A c n R) : RowA w b0 A n R := by
  obtain ⟨V, h1, h2⟩ := h
  exact ⟨V, h1, Rds.of_own h2⟩
theorem OwR.cap (h : OwR w b0 A c n R) : n ≤ c := by
  obtain ⟨V, h1, h2⟩ := h
  obtain ⟨A', c', e, h2⟩ := own_form h2
  injection e with _ _ e3
  omega
theorem OwR.below (h : OwR w b0 A c n R) (hb : Below w.heap.size w w') : OwR w' b0 A c n R := by
  obtain ⟨V, h1, h2⟩ := h
  exact ⟨V, fun k hk => (h1 k hk).kp (Kp.of_below hb), own_below h2 hb⟩
/-- element k -/
theorem RowA.at_ (h : RowA w b0 A n R) {k : Nat} (hk : k < n) : ∃ b off s A1 n1 c1 B1 m1 d1, A = some ⟨b, off, none⟩ ∧ b < w.heap.size ∧ w.cell? ⟨b, off + k * 3, none⟩ = some (.bool s) ∧ w.cell? ⟨b, off + k * 3 + 1, none⟩ = some (.slice A1 n1 c1) ∧ w.cell? ⟨b, off + k * 3 + 2, none⟩ = some (.slice B1 m1 d1) ∧ RdS w b0 (rv s A1 n1 c1 B1 m1 d1) (R k) := by
  obtain ⟨V, h1, h2⟩ := h
  obtain ⟨b, off, e, hb, hc⟩ := h2.2 (by omega)
  have hv := h1 k hk
  obtain ⟨s, A1, n1, c1, B1, m1, d1, ev⟩ := hv.form
  rw [ev] at hv
  obtain ⟨g0, g1, g2⟩ := cellsV_get (fun k hk => (h1 k hk).isR) hk ev
  exact ⟨b, off, s, A1, n1, c1, B1, m1, d1, e, hb, hc _ _ g0, by rw [Nat.add_assoc]; exact hc _ _ g1, by rw [Nat.add_assoc]; exact hc _ _ g2, hv⟩
end
end Go.Proofs.YtoiopnmphbnjaaaGreatDoor
namespace Go.Proofs.YtoiopnmphbnjaaaGreatDoor
open Go.RowKit
set_option linter.unusedSimpArgs false
set_option linter.unusedVariables false
set_option maxRecDepth 20000
attribute [local irreducible] nv wp win plainB validR valR canR
/-! ## package linear: less -/
theorem sgnQ_zero {q : Rat} : sgnQ q = 0 ↔ q = 0 := by
  unfold sgnQ
  constructor
  · intro h
    by_cases h0 : q = 0
    · exact h0
    · rw [if_neg h0] at h
      split at h <;> omega
  · intro h; rw [if_pos h]
end Go.Proofs.YtoiopnmphbnjaaaGreatDoor
namespace Go.Proofs.YtoiopnmphbnjaaaGreatDoor
open Go.RowKit
set_option linter.unusedSimpArgs false
set_option linter.unusedVariables false
/-! ## matrices: slices of slices of fractions -/
/-- a slice of fractions that came in -/
def RowI (w : World) (b0 : Nat) (A : Option Addr) (n : Nat) (R : Nat → Rw) : Prop :=
  ∃ V, (∀ k, k < n → RdS w b0 (V k) (R k)) ∧ Rds w w.heap.size 3 A n (cellsV n V) ∧ BlkIn (fun b => b < b0) A n
theorem RowI.ra {w : World} {b0 n : Nat} {A : Option Addr} {R : Nat → Rw} (h : RowI w b0 A n R) : RowA w b0 A n R := by
  obtain ⟨V, h1, h2, _⟩ := h
  exact ⟨V, h1, h2⟩
section
variable {w w' w1 : World} {b0 o co n i c g g' k' c' : Nat} {A : Option Addr} {len : Nat → Nat} {R : Nat → Nat → Rw} {M : Nat → Nat → Rat} {f' : Nat → Rat}
theorem OwR.blockA {A : Option Addr} {a : Addr} {R : Nat → Rw} (h : OwR w b0 A c n R) (ha : A = some a) : b0 ≤ a.block ∧ ∃ cur, w.heap[a.block]? = some (.cells cur 56 (0, 0)) := by
  subst ha
  obtain ⟨V, h1, h2⟩ := h
  rcases h2.2 with ⟨h, _⟩ | ⟨g', cap, cur, e, hb, hg, _⟩
  · cases h
  · injection e with e
    injection e with e
    subst e
    exact ⟨hb, cur, hg⟩
theorem below_of_row {b0 : Nat} {row : Option Nat} (h : w.grownBy w' row) (hr : ∀ k, row = some k → b0 ≤ k) (hs : b0 ≤ w.heap.size) : Below b0 w w' :=
  ⟨h.os, h.tape, h.output, h.size, fun k hk => h.block k (by omega) (fun e => by have := hr k e.symm; omega)⟩
theorem Kp.of_grown {row : Option Nat} (h : w.grownBy w' row) (hr : ∀ k, row = some k → b0 ≤ k ∧ ∃ cur, w.heap[k]? = some (.cells cur 56 (0, 0))) : Kp b0 w w' := by
  cases row with
  | none => exact ⟨h.os, h.tape, h.output, h.size, fun k hk _ => h.block k hk (by simp)⟩
  | some g =>
    obtain ⟨h1, cur, h2⟩ := hr g rfl
    exact Kp.grown h h1 h2 (by decide)
end
end Go.Proofs.YtoiopnmphbnjaaaGreatDoor
namespace Go.Proofs.YtoiopnmphbnjaaaGreatDoor
open Go.RowKit
set_option linter.unusedSimpArgs false
set_option linter.unusedVariables false
/-! ## making and growing rows and matrices -/
abbrev zr : Value := rv false none 0 0 none 0 0
end Go.Proofs.YtoiopnmphbnjaaaGreatDoor
namespace Go.Proofs.YtoiopnmphbnjaaaGreatDoor
open Go.RowKit
set_option linter.unusedSimpArgs false
set_option linter.unusedVariables false
set_option maxRecDepth 20000
/-! ## make with room -/
theorem own_cut {w : World} {b0 g c m k : Nat} {ty : TypeId} {l : List Value} (h : w.ownsRow b0 ty 1 (.slice (some ⟨g, 0, none⟩) m c) m l) (hk : k ≤ m) : w.ownsRow b0 ty 1 (.slice (some ⟨g, 0, none⟩) k c) k (l.take k) := by
  obtain ⟨h1, h2⟩ := h
  refine ⟨by rw [List.length_take, h1]; omega, ?_⟩
  rcases h2 with ⟨e, _⟩ | ⟨g', cap, cur, e, hb, hg, hmc, hcm, hsz, ht⟩
  · injection e with e; cases e
  · injection e with e1 e2 e3
    subst e3
    refine .inr ⟨g', c, cur, by rw [e1], hb, hg, by omega, hcm, hsz, ?_⟩
    rw [← ht, List.take_take, Nat.mul_one, Nat.mul_one, Nat.min_eq_left (by omega)]
theorem wpList_makeVc {w : World} {ops : Array Oper} {rest : List Oper} {o : Oper} {a : Act} {Q : Exit → Act → World → Prop}
    (hg : o.guard = none) (l c : Operand) (hop : o.op = Op.makeSlice 30 l c)
    (b0 n m : Nat) (L C : Int) (hl : a.eval l = .int .i64 L) (hc : a.eval c = .int .i64 C) (hL : L = (n : Int)) (hC : C = (m : Int)) (hnm : n ≤ m) (hm : m ≤ 1000000) (hb : b0 ≤ w.heap.size)
    (h : ∀ w', OwVb w' b0 (some ⟨w.heap.size, 0, none⟩) m n (fun _ => false) → Below w.heap.size w w' → wpList Tryz.prog ops Q rest (a.put o.dst (.slice (some ⟨w.heap.size, 0, none⟩) n m)) w') : wpList Tryz.prog ops Q (o :: rest) a w := by
  obtain ⟨i, hi, hz, hs, hby⟩ := info_parts infoV
  refine wpList_plain hg fun K hK' => ?_
  subst hL
  subst hC
  have hr := run_make (P := Tryz.prog) w 30 4 i (.bool false) Tryz.underlying30 hi hz .i64 .i64 (n : Int) (m : Int) (by omega) (by omega) (by rw [hby]; omega) (by omega)
  simp only [Int.toNat_natCast] at hr
  have h0 := World.ownsRow_lit w (e := 4) (size := 1) (madeCells (Value.cells (.bool false)) (m * i.size)) m hb (by unfold maxLen; omega) (by rw [hs]; exact size_madeCells _ _)
  have h1 := own_cut h0 hnm
  have e : (madeCells (Value.cells (.bool false)) (m * i.size)).toList.take n = bvl n (fun _ => false) := by
    rw [hs, Nat.mul_one]
    show (madeCells #[Value.bool false] m).toList.take n = _
    rw [toList_madeCells_one]
    apply List.ext_getElem (by simp [bvl]; omega)
    intro j h1 h2
    simp [bvl]
  rw [e] at h1
  unfold Oper.wp
  simp [execOp, hop, hl, hc, hr, Result.andThen]
  exact hK' _ _ (h _ h1 ((Below.refl _ _).grown (World.grownBy_alloc w _ none) (Nat.le_refl _) (by intro k hk; cases hk)))
end Go.Proofs.YtoiopnmphbnjaaaGreatDoor
namespace Go.Proofs.YtoiopnmphbnjaaaGreatDoor
open Go.RowKit
set_option linter.unusedSimpArgs false
set_option linter.unusedVariables false
/-! ## what is neither a row of fractions nor of rows stays -/
def KT (w w' : World) : Prop := ∀ (k : Nat) (cur : Array Value) (e : TypeId) (fz : Nat × Nat), w.heap[k]? = some (.cells cur e fz) → e ≠ 56 → e ≠ 23 → w'.heap[k]? = w.heap[k]?
/-! ## lists of ints of a call's own -/
section
variable {w w1 w' : World} {base base' c b0 o co n i j g : Nat} {A : Option Addr} {l : List Nat} {len : Nat → Nat} {M : Nat → Nat → Rat}
/-! ## two rows change places -/
end
end Go.Proofs.YtoiopnmphbnjaaaGreatDoor
