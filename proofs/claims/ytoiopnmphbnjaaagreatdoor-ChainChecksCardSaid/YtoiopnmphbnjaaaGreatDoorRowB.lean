/- Contracts of functions and lemmas, used by the proofs of the given statements. No condition beyond those that each lemma names. -/
import Derived.Test.YtoiopnmphbnjaaaGreatDoorJBase
import Derived.Deep.AppendLies
import Derived.OwnWalk
import Derived.Laws.OwnMore
namespace Go.Proofs.YtoiopnmphbnjaaaGreatDoor
open Go.RowKit
set_option linter.unusedSimpArgs false
set_option linter.unusedVariables false
set_option maxRecDepth 20000
/-! ## rows of bools and of ints, as functions: read, and of the call's own -/
def bvl (n : Nat) (f : Nat → Bool) : List Value := (List.range n).map fun j => .bool (f j)
def ivl (n : Nat) (f : Nat → Int) : List Value := (List.range n).map fun j => .int .i64 (f j)
theorem bvl_get {n k : Nat} {f : Nat → Bool} (h : k < n) : (bvl n f)[k]? = some (.bool (f k)) := by simp [bvl, h]
theorem ivl_get {n k : Nat} {f : Nat → Int} (h : k < n) : (ivl n f)[k]? = some (.int .i64 (f k)) := by simp [ivl, h]
theorem bvl_succ (n : Nat) (f : Nat → Bool) : bvl (n + 1) f = bvl n f ++ [.bool (f n)] := by simp [bvl, List.range_succ]
theorem ivl_succ (n : Nat) (f : Nat → Int) : ivl (n + 1) f = ivl n f ++ [.int .i64 (f n)] := by simp [ivl, List.range_succ]
theorem bvl_congr {n : Nat} {f g : Nat → Bool} (e : ∀ j, j < n → f j = g j) : bvl n f = bvl n g := by
  unfold bvl
  refine List.map_congr_left fun j hj => ?_
  rw [e j (List.mem_range.1 hj)]
theorem ivl_congr {n : Nat} {f g : Nat → Int} (e : ∀ j, j < n → f j = g j) : ivl n f = ivl n g := by
  unfold ivl
  refine List.map_congr_left fun j hj => ?_
  rw [e j (List.mem_range.1 hj)]
theorem bvl_set {n : Nat} {f : Nat → Bool} {k : Nat} {b : Bool} : (bvl n f).set k (.bool b) = bvl n (fun j => if j = k then b else f j) := by
  apply List.ext_getElem?
  intro j
  by_cases h : j = k
  · subst h
    by_cases hn : j < n
    · rw [List.getElem?_set_self (by simp [bvl]; exact hn)]; simp [bvl, hn]
    · rw [List.getElem?_eq_none (by simp [bvl]; omega), List.getElem?_eq_none (by simp [bvl]; omega)]
  · rw [List.getElem?_set_ne (Ne.symm h)]
    by_cases hn : j < n
    · simp [bvl, hn, h]
    · rw [List.getElem?_eq_none (by simp [bvl]; omega), List.getElem?_eq_none (by simp [bvl]; omega)]
/-! ### what is read -/
def RdV (w : World) (A : Option Addr) (n : Nat) (f : Nat → Bool) : Prop := Rds w w.heap.size 1 A n (bvl n f)
def RdJ (w : World) (A : Option Addr) (n : Nat) (f : Nat → Int) : Prop := Rds w w.heap.size 1 A n (ivl n f)
section
variable {w w' : World} {A : Option Addr} {n k B : Nat} {f g : Nat → Bool} {p q : Nat → Int}
theorem RdV.below (h : RdV w A n f) (hb : Below w.heap.size w w') : RdV w' A n f := Rds.more (Rds.below h hb) hb.size
theorem RdJ.below (h : RdJ w A n p) (hb : Below w.heap.size w w') : RdJ w' A n p := Rds.more (Rds.below h hb) hb.size
theorem RdJ.congr (h : RdJ w A n p) (e : ∀ j, j < n → p j = q j) : RdJ w A n q := by unfold RdJ at h ⊢; rw [← ivl_congr e]; exact h
theorem RdV.later (h : RdV w A n f) (hb : Below w.heap.size w w') (hk : k < n) : ∃ b off, A = some ⟨b, off, none⟩ ∧ b < w.heap.size ∧ w'.cell? ⟨b, off + k, none⟩ = some (.bool (f k)) := by
  obtain ⟨b, off, e, hlt, hc⟩ := h.2 (by omega)
  exact ⟨b, off, e, hlt, (hb.cell (p := ⟨b, off + k, none⟩) hlt).trans (hc k _ (bvl_get hk))⟩
theorem RdJ.later (h : RdJ w A n p) (hb : Below w.heap.size w w') (hk : k < n) : ∃ b off, A = some ⟨b, off, none⟩ ∧ b < w.heap.size ∧ w'.cell? ⟨b, off + k, none⟩ = some (.int .i64 (p k)) := by
  obtain ⟨b, off, e, hlt, hc⟩ := h.2 (by omega)
  exact ⟨b, off, e, hlt, (hb.cell (p := ⟨b, off + k, none⟩) hlt).trans (hc k _ (ivl_get hk))⟩
theorem RdV.at_ (h : RdV w A n f) (hk : k < n) : ∃ b off, A = some ⟨b, off, none⟩ ∧ b < w.heap.size ∧ w.cell? ⟨b, off + k, none⟩ = some (.bool (f k)) := h.later (Below.refl _ _) hk
end
/-! ### rows of the call's own -/
def OwVb (w : World) (base : Nat) (A : Option Addr) (c n : Nat) (f : Nat → Bool) : Prop := w.ownsRow base 4 1 (.slice A n c) n (bvl n f)
def OwJ (w : World) (base : Nat) (A : Option Addr) (c n : Nat) (f : Nat → Int) : Prop := w.ownsRow base 3 1 (.slice A n c) n (ivl n f)
theorem infoV : (Tryz.prog.info? 4).map (fun i => (i.zero, i.size, i.bytes)) = some (some (.bool false), 1, 1) := by kernel_rfl
theorem infoJ : (Tryz.prog.info? 3).map (fun i => (i.zero, i.size, i.bytes)) = some (some (.int .i64 0), 1, 8) := by kernel_rfl
section
variable {w w' w1 : World} {base b0 g c n k : Nat} {A : Option Addr} {f f' : Nat → Bool} {p q : Nat → Int}
theorem OwVb.nil_ (w : World) (base : Nat) (f : Nat → Bool) : OwVb w base none 0 0 f := own_nil w base _ 1
theorem OwJ.nil_ (w : World) (base : Nat) (f : Nat → Int) : OwJ w base none 0 0 f := own_nil w base _ 1
theorem OwVb.below (h : OwVb w base A c n f) (hb : Below w.heap.size w w1) : OwVb w1 base A c n f := own_below h hb
theorem OwJ.below (h : OwJ w base A c n p) (hb : Below w.heap.size w w1) : OwJ w1 base A c n p := own_below h hb
theorem OwVb.base_ (h : OwVb w base A c n f) (hb : b0 ≤ base) : OwVb w b0 A c n f := own_base h hb
theorem OwJ.base_ (h : OwJ w base A c n p) (hb : b0 ≤ base) : OwJ w b0 A c n p := own_base h hb
theorem OwVb.congr (h : OwVb w base A c n f) (e : ∀ j, j < n → f j = f' j) : OwVb w base A c n f' := by unfold OwVb at h ⊢; rw [← bvl_congr e]; exact h
theorem OwJ.congr (h : OwJ w base A c n p) (e : ∀ j, j < n → p j = q j) : OwJ w base A c n q := by unfold OwJ at h ⊢; rw [← ivl_congr e]; exact h
theorem OwVb.rd (h : OwVb w base A c n f) : RdV w A n f := Rds.of_own h
theorem OwJ.rd (h : OwJ w base A c n p) : RdJ w A n p := Rds.of_own h
theorem OwVb.at_ (h : OwVb w base (some ⟨g, 0, none⟩) c n f) (hk : k < n) : w.cell? ⟨g, k, none⟩ = some (.bool (f k)) := by
  rw [World.ownsRow.cellAt h k (by omega)]
  exact bvl_get hk
theorem OwJ.at_ (h : OwJ w base (some ⟨g, 0, none⟩) c n p) (hk : k < n) : w.cell? ⟨g, k, none⟩ = some (.int .i64 (p k)) := by
  rw [World.ownsRow.cellAt h k (by omega)]
  exact ivl_get hk
theorem OwVb.frozen (h : OwVb w base (some ⟨g, 0, none⟩) c n f) (k : Nat) : w.frozen? ⟨g, k, none⟩ = false := World.ownsRow.frozenAt h k
theorem OwVb.set (h : OwVb w base (some ⟨g, 0, none⟩) c n f) (k : Nat) (b : Bool) : OwVb (w.setCell ⟨g, k, none⟩ (.bool b)) base (some ⟨g, 0, none⟩) c n (fun j => if j = k then b else f j) ∧ w.grownBy (w.setCell ⟨g, k, none⟩ (.bool b)) (some g) := by
  obtain ⟨s1, g1⟩ := World.ownsRow.stored h k (.bool b)
  rw [bvl_set] at s1
  exact ⟨s1, g1⟩
theorem OwVb.form (h : OwVb w base A c n f) (hn : 0 < n) : ∃ g, A = some ⟨g, 0, none⟩ ∧ base ≤ g ∧ g < w.heap.size := by
  obtain ⟨g, cap, e, h1, h2⟩ := World.ownsRow.form h hn
  injection e with e
  exact ⟨g, e, h1, h2⟩
theorem OwJ.form (h : OwJ w base A c n p) (hn : 0 < n) : ∃ g, A = some ⟨g, 0, none⟩ ∧ base ≤ g ∧ g < w.heap.size := by
  obtain ⟨g, cap, e, h1, h2⟩ := World.ownsRow.form h hn
  injection e with e
  exact ⟨g, e, h1, h2⟩
/-- make -/
theorem wpList_makeV {ops : Array Oper} {rest : List Oper} {o : Oper} {a : Act} {Q : Exit → Act → World → Prop}
    (hg : o.guard = none) (l c : Operand) (hop : o.op = Op.makeSlice 30 l c)
    (b0 n : Nat) (L C : Int) (hl : a.eval l = .int .i64 L) (hc : a.eval c = .int .i64 C) (hL : L = (n : Int)) (hC : C = (n : Int)) (hn : n ≤ 1000000) (hb : b0 ≤ w.heap.size)
    (h : ∀ w', OwVb w' b0 (some ⟨w.heap.size, 0, none⟩) n n (fun _ => false) → Below w.heap.size w w' → wpList Tryz.prog ops Q rest (a.put o.dst (.slice (some ⟨w.heap.size, 0, none⟩) n n)) w') : wpList Tryz.prog ops Q (o :: rest) a w := by
  obtain ⟨i, hi, hz, hs, hby⟩ := info_parts infoV
  refine wpList_make_full w hg l c 30 hop b0 4 i (.bool false) 1 Tryz.underlying30 hi hz hs .i64 .i64 L C n hl hc hL hC (by rw [hby]; omega) (by unfold maxLen; omega) hb ?_
  intro w' h1 h2
  have e : (madeCells (Value.cells (.bool false)) (n * 1)).toList = bvl n (fun _ => false) := by
    rw [Nat.mul_one]
    show (madeCells #[Value.bool false] n).toList = _
    rw [toList_madeCells_one]
    apply List.ext_getElem (by simp [bvl])
    intro j h1 h2
    simp [bvl]
  rw [e] at h1
  exact h w' h1 ((Below.refl _ _).grown h2 (Nat.le_refl _) (by intro k hk; cases hk))
end
end Go.Proofs.YtoiopnmphbnjaaaGreatDoor
