/- Contracts of functions and lemmas, used by the proofs of the given statements. No condition beyond those that each lemma names. -/
import Derived.Test.YtlncafhgmbhocaaGreatDoorJTrZ
import Derived.Test.YtlncafhgmbhocaaGreatDoorJBase
namespace Go.Proofs.YtlncafhgmbhocaaGreatDoor
open Go.RowKit
set_option linter.unusedSimpArgs false
set_option linter.unusedVariables false
set_option maxRecDepth 20000
/-! ## a row of ints of the call's own, as a function -/
theorem zis_succ (n : Nat) (f : Nat → Int) : zis (n + 1) f = zis n f ++ [.int .i64 (f n)] := by simp [zis, List.range_succ]
theorem zis_set {n : Nat} {f : Nat → Int} {k : Nat} {b : Int} : (zis n f).set k (.int .i64 b) = zis n (upd f k b) := by
  apply List.ext_getElem?
  intro j
  by_cases h : j = k
  · subst h
    by_cases hn : j < n
    · rw [List.getElem?_set_self (by simp [zis]; exact hn)]; simp [zis, hn, upd]
    · rw [List.getElem?_eq_none (by simp [zis]; omega), List.getElem?_eq_none (by simp [zis]; omega)]
  · rw [List.getElem?_set_ne (Ne.symm h)]
    by_cases hn : j < n
    · simp [zis, hn, upd, h]
    · rw [List.getElem?_eq_none (by simp [zis]; omega), List.getElem?_eq_none (by simp [zis]; omega)]
def OwZ (w : World) (base : Nat) (A : Option Addr) (c n : Nat) (f : Nat → Int) : Prop := w.ownsRow base 3 1 (.slice A n c) n (zis n f)
/-- two rows in blocks of their own -/
def Apt (v u : Value) : Prop := ∀ k, v.ownBlock = some k → u.ownBlock ≠ some k
section
variable {w w' w1 : World} {base g c n k : Nat} {A : Option Addr} {f f' : Nat → Int}
theorem OwZ.nil_ (w : World) (base : Nat) (f : Nat → Int) : OwZ w base none 0 0 f := own_nil w base _ 1
theorem OwZ.below (h : OwZ w base A c n f) (hb : Below w.heap.size w w1) : OwZ w1 base A c n f := own_below h hb
theorem OwZ.congr (h : OwZ w base A c n f) (e : ∀ j, j < n → f j = f' j) : OwZ w base A c n f' := by
  unfold OwZ at h ⊢
  rw [← zis_congr e]
  exact h
theorem OwZ.at_ (h : OwZ w base (some ⟨g, 0, none⟩) c n f) (hk : k < n) : w.cell? ⟨g, k, none⟩ = some (.int .i64 (f k)) := by
  rw [World.ownsRow.cellAt h k (by omega)]
  simp [zis, hk]
theorem OwZ.frozen (h : OwZ w base (some ⟨g, 0, none⟩) c n f) (k : Nat) : w.frozen? ⟨g, k, none⟩ = false := World.ownsRow.frozenAt h k
theorem OwZ.set (h : OwZ w base (some ⟨g, 0, none⟩) c n f) (k : Nat) (b : Int) : OwZ (w.setCell ⟨g, k, none⟩ (.int .i64 b)) base (some ⟨g, 0, none⟩) c n (upd f k b) ∧ w.grownBy (w.setCell ⟨g, k, none⟩ (.int .i64 b)) (some g) := by
  obtain ⟨s1, g1⟩ := World.ownsRow.stored h k (.int .i64 b)
  rw [zis_set] at s1
  exact ⟨s1, g1⟩
theorem OwZ.pa (h : OwZ w base A c n f) : PaI w A n f := Rds.of_own h
theorem OwZ.blk (h : OwZ w base A c n f) : ∀ k, (Value.slice A n c).ownBlock = some k → base ≤ k ∧ k < w.heap.size := fun k e => World.ownsRow.lt h k e
theorem OwZ.kept_ (h : OwZ w base A c n f) {row : Option Nat} (hg : w.grownBy w' row) (hr : ∀ k, (Value.slice A n c).ownBlock = some k → row ≠ some k) : OwZ w' base A c n f := by
  refine World.ownsRow.kept h hg ?_
  cases e : (Value.slice A n c).ownBlock with
  | none => exact .inl rfl
  | some k => exact .inr (fun e2 => hr k e e2.symm)
theorem Apt.symm {v u : Value} (h : Apt v u) : Apt u v := fun k h1 h2 => h k h2 h1
theorem Apt.none_ {n c : Nat} {u : Value} : Apt (.slice none n c) u := fun k h => by cases h
theorem intInfoZ : (Tryz.prog.info? 3).map (fun i => (i.zero, i.size, i.bytes)) = some (some (.int .i64 0), 1, 8) := by kernel_rfl
/-- is := make([]int, n) -/
theorem wpList_makeZ {ops : Array Oper} {rest : List Oper} {o : Oper} {a : Act} {Q : Exit → Act → World → Prop}
    (hg : o.guard = none) (l c : Operand) (hop : o.op = Op.makeSlice 26 l c)
    (b0 n : Nat) (L C : Int) (hl : a.eval l = .int .i64 L) (hc : a.eval c = .int .i64 C) (hL : L = (n : Int)) (hC : C = (n : Int)) (hn : n ≤ 1000000) (hb : b0 ≤ w.heap.size)
    (h : ∀ w', OwZ w' b0 (some ⟨w.heap.size, 0, none⟩) n n (fun _ => 0) → Below w.heap.size w w' → wpList Tryz.prog ops Q rest (a.put o.dst (.slice (some ⟨w.heap.size, 0, none⟩) n n)) w') : wpList Tryz.prog ops Q (o :: rest) a w := by
  obtain ⟨i, hi, hz, hs, hby⟩ := info_parts intInfoZ
  refine wpList_make_full w hg l c 26 hop b0 3 i (.int .i64 0) 1 Tryz.underlying26 hi hz hs .i64 .i64 L C n hl hc hL hC (by rw [hby]; omega) (by unfold maxLen; omega) hb ?_
  intro w' h1 h2
  have e : (madeCells (Value.cells (.int .i64 0)) (n * 1)).toList = zis n (fun _ => 0) := by
    rw [Nat.mul_one]
    show (madeCells #[Value.int .i64 0] n).toList = _
    rw [toList_madeCells_one]
    apply List.ext_getElem (by simp [zis])
    intro j h1 h2
    simp [zis]
  rw [e] at h1
  exact h w' h1 ((Below.refl _ _).grown h2 (Nat.le_refl _) (by intro k hk; cases hk))
/-- row = append(row, f n) -/
theorem wpList_appZ {ops : Array Oper} {rest : List Oper} {o : Oper} {a : Act} {Q : Exit → Act → World → Prop} (hgd : o.guard = none) (s x : Operand)
    (ho : o.op = .call { callee := .builtin .append, args := #[s, x], argTypes := #[26, 26] })
    (b0 : Nat) (A : Option Addr) (c n : Nat) (f : Nat → Int) (hs : a.eval s = .slice A n c) (hown : OwZ w b0 A c n f)
    (B : Nat) (hx : a.eval x = .slice (some ⟨B, 0, none⟩) 1 1) (hc0 : w.cell? ⟨B, 0, none⟩ = some (.int .i64 (f n)))
    (hn : n ≤ 1000000) (hbase : b0 ≤ w.heap.size)
    (h : ∀ g cap w', OwZ w' b0 (some ⟨g, 0, none⟩) cap (n + 1) f → w.grownBy w' (Value.slice A n c).ownBlock → ((Value.slice A n c).ownBlock = some g ∨ w.heap.size ≤ g) → g < w'.heap.size → wpList Tryz.prog ops Q rest (a.put o.dst (.slice (some ⟨g, 0, none⟩) (n + 1) cap)) w') : wpList Tryz.prog ops Q (o :: rest) a w := by
  obtain ⟨i0, hi0, hz0, hz1, hz2⟩ := info_parts intInfoZ
  refine wpList_append_lies _ hgd s x 26 ho b0 3 i0 _ 1 8 Tryz.underlying26 hi0 hz0 hz1 hz2 rfl (by omega) _ n _ hs hown ⟨B, 0, none⟩ 1 1 [.int .i64 (f n)] hx rfl ?_ ?_ (by omega) (by unfold maxLen; omega) (by omega) hbase w.heap.size rfl ?_
  · intro j u hu
    rw [addr_add, Nat.zero_add]
    match j, hu with
    | 0, hu => simp at hu; subst hu; exact hc0
    | j + 1, hu => simp at hu
  · intro u hu
    simp at hu
    subst hu; rfl
  · intro g cap w' h1 h2 h3 h4
    refine h g cap w' ?_ h2 (h3.imp id fun e => by omega) h4
    unfold OwZ
    rw [zis_succ]
    exact h1
end
end Go.Proofs.YtlncafhgmbhocaaGreatDoor
