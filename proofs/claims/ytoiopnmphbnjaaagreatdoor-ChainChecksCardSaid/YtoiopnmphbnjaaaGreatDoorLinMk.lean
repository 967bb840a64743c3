/- Contracts of functions and lemmas, used by the proofs of the given statements. No condition beyond those that each lemma names. -/
import Derived.Test.YtoiopnmphbnjaaaGreatDoorJLinRow
import Derived.Deep.AppendLies
namespace Go.Proofs.YtoiopnmphbnjaaaGreatDoor
open Go.RowKit
set_option linter.unusedSimpArgs false
set_option linter.unusedVariables false
/-! ## making and growing rows and matrices -/
abbrev zr : Value := rv false none 0 0 none 0 0
theorem cellsV_zero3 (n : Nat) : (madeCells (Value.cells zr) (n * 3)).toList = cellsV n (fun _ => zr) := by
  have hz : Value.cells zr = #[.bool false, .slice none 0 0, .slice none 0 0] := rfl
  rw [hz]
  have hR : ∀ k, k < n → isR ((fun _ => zr) k) := fun k _ => ⟨false, none, 0, 0, none, 0, 0, rfl⟩
  apply List.ext_getElem?
  intro j
  by_cases hj : j < n * 3
  · obtain ⟨g0, g1, g2⟩ := cellsV_get (V := fun _ => zr) hR (show j / 3 < n by omega) (s := false) (A := none) (a := 0) (c := 0) (B := none) (b := 0) (d := 0) rfl
    have h3 : j % 3 < 3 := Nat.mod_lt _ (by omega)
    have e : j = j / 3 * 3 + j % 3 := by omega
    have lhs : (madeCells #[Value.bool false, .slice none 0 0, .slice none 0 0] (n * 3)).toList[j]? = some (#[Value.bool false, .slice none 0 0, .slice none 0 0][j % 3]!) := by
      simp [madeCells, hj]
    rw [lhs]
    rcases (show j % 3 = 0 ∨ j % 3 = 1 ∨ j % 3 = 2 by omega) with h | h | h
    · rw [h]; rw [h] at e; rw [e, Nat.add_zero, g0]; rfl
    · rw [h]; rw [h] at e; rw [e, g1]; rfl
    · rw [h]; rw [h] at e; rw [e, g2]; rfl
  · rw [List.getElem?_eq_none (by simp [size_madeCells]; omega), List.getElem?_eq_none (by rw [cellsV_length hR]; omega)]
theorem RdS.zero (w : World) (b0 : Nat) : RdS w b0 zr (canR 0) := (OwQ.zero w b0).rs
theorem sliceInfo : (Tryz.prog.info? 23).map (fun i => (i.zero, i.size, i.bytes)) = some (some (.slice none 0 0), 1, 24) := by kernel_rfl
/-- out := make([]api.Rat, n) -/
theorem wpList_makeR {w : World} {ops : Array Oper} {rest : List Oper} {o : Oper} {a : Act} {Q : Exit → Act → World → Prop}
    (hg : o.guard = none) (l c : Operand) (hop : o.op = Op.makeSlice 23 l c)
    (b0 n : Nat) (L C : Int) (hl : a.eval l = .int .i64 L) (hc : a.eval c = .int .i64 C) (hL : L = (n : Int)) (hC : C = (n : Int)) (hn : n ≤ 1000000) (hb : b0 ≤ w.heap.size)
    (h : ∀ w', OwR w' b0 (some ⟨w.heap.size, 0, none⟩) n n (can fun _ => 0) → Below w.heap.size w w' → wpList Tryz.prog ops Q rest (a.put o.dst (.slice (some ⟨w.heap.size, 0, none⟩) n n)) w') : wpList Tryz.prog ops Q (o :: rest) a w := by
  obtain ⟨i, hi, hz, hs, hby⟩ := info_parts ratInfo
  refine wpList_make_full w hg l c 23 hop b0 56 i zr 3 Tryz.underlying23 hi hz hs .i64 .i64 L C n hl hc hL hC (by rw [hby]; omega) (by unfold maxLen; omega) hb ?_
  intro w' h1 h2
  rw [cellsV_zero3] at h1
  exact h w' ⟨_, fun k _ => RdS.zero w' b0, h1⟩ ((Below.refl _ _).grown h2 (Nat.le_refl _) (by intro k hk; cases hk))
/-- out := make([][]api.Rat, n) -/
theorem wpList_makeM {w : World} {ops : Array Oper} {rest : List Oper} {o : Oper} {a : Act} {Q : Exit → Act → World → Prop}
    (hg : o.guard = none) (l c : Operand) (hop : o.op = Op.makeSlice 69 l c)
    (b0 n : Nat) (M : Nat → Nat → Rat) (L C : Int) (hl : a.eval l = .int .i64 L) (hc : a.eval c = .int .i64 C) (hL : L = (n : Int)) (hC : C = (n : Int)) (hn : n ≤ 1000000) (hb : b0 ≤ w.heap.size)
    (h : ∀ w', MatG w' b0 w.heap.size n n (fun _ => 0) M → Below w.heap.size w w' → wpList Tryz.prog ops Q rest (a.put o.dst (.slice (some ⟨w.heap.size, 0, none⟩) n n)) w') : wpList Tryz.prog ops Q (o :: rest) a w := by
  obtain ⟨i, hi, hz, hs, hby⟩ := info_parts sliceInfo
  refine wpList_make_full w hg l c 69 hop b0 23 i (.slice none 0 0) 1 Tryz.underlying69 hi hz hs .i64 .i64 L C n hl hc hL hC (by rw [hby]; omega) (by unfold maxLen; omega) hb ?_
  intro w' h1 h2
  have e : (madeCells (Value.cells (.slice none 0 0)) (n * 1)).toList = rowsC n (fun _ => none) (fun _ => 0) (fun _ => 0) := by
    rw [Nat.mul_one]
    show (madeCells #[Value.slice none 0 0] n).toList = _
    rw [toList_madeCells_one]
    apply List.ext_getElem (by simp [rowsC])
    intro j h1 h2
    simp [rowsC]
  rw [e] at h1
  refine h w' ⟨_, _, fun _ => none, fun _ => 0, rfl, rfl, (show Dist n (fun _ => none) from fun _ _ _ _ _ _ _ ha _ => nomatch ha), h1, fun j hj => OwR.nil_ _ _ _⟩ ((Below.refl _ _).grown h2 (Nat.le_refl _) (by intro k hk; cases hk))
theorem rowsC_congr {n : Nat} {Ar : Nat → Option Addr} {len len' cp : Nat → Nat} (h : ∀ i, i < n → len i = len' i) : rowsC n Ar len cp = rowsC n Ar len' cp := by
  unfold rowsC
  exact List.map_congr_left fun i hi => by rw [h i (List.mem_range.1 hi)]
theorem MatG.congr {w : World} {b0 o co n : Nat} {len len' : Nat → Nat} {M M' : Nat → Nat → Rat} (h : MatG w b0 o co n len M) (hl : ∀ i, i < n → len i = len' i) (hM : ∀ i k, i < n → k < len i → M i k = M' i k) : MatG w b0 o co n len' M' := by
  obtain ⟨A, c, Ar, cp, e1, e2, hd, h1, h2⟩ := h
  rw [rowsC_congr hl] at h1
  refine ⟨A, c, Ar, cp, e1, e2, hd, h1, fun j hj => ?_⟩
  rw [← hl j hj]
  exact (h2 j hj).congr fun k hk => by unfold can; rw [hM j k hj hk]
theorem own_blk (A : Option Addr) (n m c d : Nat) : (Value.slice A n c).ownBlock = (Value.slice A m d).ownBlock := by cases A <;> rfl
theorem MatX.put' {w w1 : World} {b0 o co n i c n0 c0 g' k' c' : Nat} {A : Option Addr} {len : Nat → Nat} {M : Nat → Nat → Rat} {f' : Nat → Rat} (h : MatX w b0 o co n i A c len M) (hi : i < n) (hg : w.grownBy w1 (Value.slice A n0 c0).ownBlock) (hnew : OwR w1 b0 (some ⟨g', 0, none⟩) c' k' (can f')) (hfr : (Value.slice A n0 c0).ownBlock = some g' ∨ w.heap.size ≤ g') (hs : b0 ≤ w.heap.size) :
    MatG (w1.setCell ⟨o, i, none⟩ (.slice (some ⟨g', 0, none⟩) k' c')) b0 o co n (upd len i k') (upd M i f') ∧ Kp b0 w (w1.setCell ⟨o, i, none⟩ (.slice (some ⟨g', 0, none⟩) k' c')) ∧ Below b0 w (w1.setCell ⟨o, i, none⟩ (.slice (some ⟨g', 0, none⟩) k' c')) := by
  rw [own_blk A n0 (len i) c0 c] at hg hfr
  exact h.put hi hg hnew hfr hs
theorem upd_can {f : Nat → Rat} {k : Nat} {q : Rat} : upd (can f) k (canR q) = can (upd f k q) := by
  funext j
  show (if j = k then canR q else canR (f j)) = canR (if j = k then q else f j)
  by_cases h : j = k
  · rw [if_pos h, if_pos h]
  · rw [if_neg h, if_neg h]
end Go.Proofs.YtoiopnmphbnjaaaGreatDoor
