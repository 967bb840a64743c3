/- Contracts of functions and lemmas, used by the proofs of the given statements. No condition beyond those that each lemma names. -/
import Derived.Test.YtglpknhcneggeaaGreatDoorJLinDef
import Derived.Deep.AppendLies
namespace Go.Proofs.YtglpknhcneggeaaGreatDoor
open Go.RowKit
set_option linter.unusedSimpArgs false
set_option linter.unusedVariables false
set_option maxRecDepth 20000
attribute [local irreducible] nv wp win plainB validR valR canR
/-! ## package linear: less -/
abbrev can (f : Nat → Rat) : Nat → Rw := fun k => canR (f k)
theorem sgnQ_zero {q : Rat} : sgnQ q = 0 ↔ q = 0 := by
  unfold sgnQ
  constructor
  · intro h
    by_cases h0 : q = 0
    · exact h0
    · rw [if_neg h0] at h
      split at h <;> omega
  · intro h; rw [if_pos h]
theorem sgn_ne {q : Rat} (h : q ≠ 0) : (sgnQ q != 0) = true := by rw [bne_iff_ne]; exact fun e => h (sgnQ_zero.1 e)
theorem sgn_eq {q : Rat} (h : q ≠ 0) : (sgnQ q == 0) = false := beq_eq_false_iff_ne.2 fun e => h (sgnQ_zero.1 e)
theorem upd_round {x : Nat → Rat} {y : Nat → Rat} {f : Rat} {k : Nat} : ∀ j, upd (can fun j => if j < k then x j - f * y j else x j) k (canR (x k - f * y k)) j = can (fun j => if j < k + 1 then x j - f * y j else x j) j := by
  intro j
  unfold upd can
  by_cases h : j = k
  · subst h; simp
  · by_cases h2 : j < k
    · simp [h, h2, show j < k + 1 by omega]
    · simp [h, h2, show ¬ j < k + 1 by omega]
end Go.Proofs.YtglpknhcneggeaaGreatDoor
namespace Go.Proofs.YtglpknhcneggeaaGreatDoor
open Go.RowKit
set_option linter.unusedSimpArgs false
set_option linter.unusedVariables false
/-! ## matrices: slices of slices of fractions -/
/-- a slice of fractions that came in -/
def RowI (w : World) (b0 : Nat) (A : Option Addr) (n : Nat) (R : Nat → Rw) : Prop :=
  ∃ V, (∀ k, k < n → RdS w b0 (V k) (R k)) ∧ Rds w w.heap.size 3 A n (cellsV n V) ∧ BlkIn (fun b => b < b0) A n
theorem RowI.ra {w : World} {b0 n : Nat} {A : Option Addr} {R : Nat → Rw} (h : RowI w b0 A n R) : RowA w b0 A n R := by
  obtain ⟨V, h1, h2, _⟩ := h
  exact ⟨V, h1, h2⟩
theorem Rds.kp {w w' : World} {b0 size n : Nat} {A : Option Addr} {xs : List Value} (h : Rds w w.heap.size size A n xs) (hs : BlkIn (fun b => b < b0) A n) (k : Kp b0 w w') : Rds w' w'.heap.size size A n xs := by
  refine ⟨h.1, fun hn => ?_⟩
  obtain ⟨b, off, rfl, hb, hc⟩ := h.2 hn
  exact ⟨b, off, rfl, Nat.lt_of_lt_of_le hb k.size, fun j u hu => (k.cell hb (.inl (hs hn _ rfl))).trans (hc j u hu)⟩
theorem RowI.kp {w w' : World} {b0 n : Nat} {A : Option Addr} {R : Nat → Rw} (h : RowI w b0 A n R) (k : Kp b0 w w') : RowI w' b0 A n R := by
  obtain ⟨V, h1, h2, h3⟩ := h
  exact ⟨V, fun i hi => (h1 i hi).kp k, Rds.kp h2 h3 k, h3⟩
def rowsC (n : Nat) (Ar : Nat → Option Addr) (len cp : Nat → Nat) : List Value := (List.range n).map fun i => .slice (Ar i) (len i) (cp i)
theorem rowsC_length (n : Nat) (Ar : Nat → Option Addr) (len cp : Nat → Nat) : (rowsC n Ar len cp).length = n := by simp [rowsC]
theorem rowsC_get {n : Nat} {Ar : Nat → Option Addr} {len cp : Nat → Nat} {i : Nat} (h : i < n) : (rowsC n Ar len cp)[i]? = some (.slice (Ar i) (len i) (cp i)) := by simp [rowsC, h]
theorem rowsC_set {n : Nat} {Ar : Nat → Option Addr} {len cp : Nat → Nat} {i : Nat} (A : Option Addr) (k c : Nat) : (rowsC n Ar len cp).set i (.slice A k c) = rowsC n (upd Ar i A) (upd len i k) (upd cp i c) := by
  apply List.ext_getElem? 
  intro j
  by_cases h : j = i
  · subst h
    by_cases hn : j < n
    · rw [List.getElem?_set_self (by rw [rowsC_length]; exact hn), rowsC_get hn, upd_same, upd_same, upd_same]
    · rw [List.getElem?_eq_none (by rw [List.length_set, rowsC_length]; omega), List.getElem?_eq_none (by rw [rowsC_length]; omega)]
  · rw [List.getElem?_set_ne (Ne.symm h)]
    by_cases hn : j < n
    · rw [rowsC_get hn, rowsC_get hn, upd_ne _ _ h, upd_ne _ _ h, upd_ne _ _ h]
    · rw [List.getElem?_eq_none (by rw [rowsC_length]; omega), List.getElem?_eq_none (by rw [rowsC_length]; omega)]
/-- a matrix that came in, its rows of whatever lengths -/
def MatI (w : World) (b0 : Nat) (A : Option Addr) (n : Nat) (len : Nat → Nat) (R : Nat → Nat → Rw) : Prop :=
  ∃ Ar cp, Rds w w.heap.size 1 A n (rowsC n Ar len cp) ∧ BlkIn (fun b => b < b0) A n ∧ ∀ i, i < n → len i ≤ cp i ∧ RowI w b0 (Ar i) (len i) (R i)
section
variable {w w' w1 : World} {b0 o co n i c g g' k' c' : Nat} {A : Option Addr} {len : Nat → Nat} {R : Nat → Nat → Rw} {M : Nat → Nat → Rat} {f' : Nat → Rat}
theorem MatI.kp (h : MatI w b0 A n len R) (k : Kp b0 w w') : MatI w' b0 A n len R := by
  obtain ⟨Ar, cp, h1, h2, h3⟩ := h
  exact ⟨Ar, cp, Rds.kp h1 h2 k, h2, fun i hi => ⟨(h3 i hi).1, (h3 i hi).2.kp k⟩⟩
theorem MatI.at_ (h : MatI w b0 A n len R) (hi : i < n) : ∃ b off Ai ci, A = some ⟨b, off, none⟩ ∧ b < w.heap.size ∧ w.cell? ⟨b, off + i, none⟩ = some (.slice Ai (len i) ci) ∧ len i ≤ ci ∧ RowI w b0 Ai (len i) (R i) := by
  obtain ⟨Ar, cp, h1, h2, h3⟩ := h
  obtain ⟨b, off, e, hb, hc⟩ := h1.2 (by omega)
  exact ⟨b, off, Ar i, cp i, e, hb, hc i _ (rowsC_get hi), (h3 i hi).1, (h3 i hi).2⟩
def Dist (n : Nat) (Ar : Nat → Option Addr) : Prop := ∀ j j', j < n → j' < n → j ≠ j' → ∀ a a', Ar j = some a → Ar j' = some a' → a.block ≠ a'.block
/-- a matrix of the call's own, the head of row i written out -/
def MatX (w : World) (b0 o co n i : Nat) (A : Option Addr) (c : Nat) (len : Nat → Nat) (M : Nat → Nat → Rat) : Prop :=
  ∃ Ar cp, Ar i = A ∧ cp i = c ∧ Dist n Ar ∧ w.ownsRow b0 32 1 (.slice (some ⟨o, 0, none⟩) n co) n (rowsC n Ar len cp) ∧ ∀ j, j < n → OwR w b0 (Ar j) (cp j) (len j) (can (M j))
def MatG (w : World) (b0 o co n : Nat) (len : Nat → Nat) (M : Nat → Nat → Rat) : Prop := ∃ A c, MatX w b0 o co n 0 A c len M
theorem MatX.mg (h : MatX w b0 o co n i A c len M) : MatG w b0 o co n len M := by
  obtain ⟨Ar, cp, _, _, h⟩ := h
  exact ⟨_, _, Ar, cp, rfl, rfl, h⟩
theorem MatG.row (h : MatG w b0 o co n len M) (i : Nat) : ∃ A c, MatX w b0 o co n i A c len M := by
  obtain ⟨_, _, Ar, cp, _, _, h⟩ := h
  exact ⟨_, _, Ar, cp, rfl, rfl, h⟩
theorem MatX.own (h : MatX w b0 o co n i A c len M) (hi : i < n) : OwR w b0 A c (len i) (can (M i)) := by
  obtain ⟨Ar, cp, rfl, rfl, _, _, h⟩ := h
  exact h i hi
theorem MatX.cell (h : MatX w b0 o co n i A c len M) (hi : i < n) : w.cell? ⟨o, i, none⟩ = some (.slice A (len i) c) := by
  obtain ⟨Ar, cp, rfl, rfl, _, h1, h⟩ := h
  rw [World.ownsRow.cellAt h1 i (by omega), rowsC_get hi]
theorem MatG.frozen (h : MatG w b0 o co n len M) (k : Nat) : w.frozen? ⟨o, k, none⟩ = false := by
  obtain ⟨_, _, Ar, cp, _, _, _, h1, h⟩ := h
  exact World.ownsRow.frozenAt h1 k
theorem MatG.block (h : MatG w b0 o co n len M) : b0 ≤ o ∧ ∃ cur, w.heap[o]? = some (.cells cur 32 (0, 0)) := by
  obtain ⟨_, _, Ar, cp, _, _, _, h2, h⟩ := h
  rcases h2.2 with ⟨h, _⟩ | ⟨g', cap, cur, e, hb, hg, _⟩
  · cases h
  · injection e with e
    injection e with e
    injection e with e
    subst e
    exact ⟨hb, cur, hg⟩
theorem MatG.lt (h : MatG w b0 o co n len M) : o < w.heap.size := by
  obtain ⟨_, cur, h⟩ := h.block
  exact (Array.getElem?_eq_some_iff.1 h).1
theorem OwR.blockA {A : Option Addr} {a : Addr} {R : Nat → Rw} (h : OwR w b0 A c n R) (ha : A = some a) : b0 ≤ a.block ∧ ∃ cur, w.heap[a.block]? = some (.cells cur 28 (0, 0)) := by
  subst ha
  obtain ⟨V, h1, h2⟩ := h
  rcases h2.2 with ⟨h, _⟩ | ⟨g', cap, cur, e, hb, hg, _⟩
  · cases h
  · injection e with e
    injection e with e
    subst e
    exact ⟨hb, cur, hg⟩
theorem OwR.form {R' : Nat → Rw} (h : OwR w b0 A c n R') (hn : 0 < n) : ∃ g, A = some ⟨g, 0, none⟩ := by
  obtain ⟨V, h1, h2⟩ := h
  rcases h2.2 with ⟨_, h⟩ | ⟨g', cap, cur, e, hb, hg, _⟩
  · omega
  · injection e with e
    exact ⟨g', e⟩
theorem OwR.keepA {A : Option Addr} {R : Nat → Rw} (h : OwR w b0 A c n R) {row : Option Nat} (hg : w.grownBy w' row) (hk : Kp b0 w w') (hne : ∀ a, A = some a → row ≠ some a.block) : OwR w' b0 A c n R := by
  obtain ⟨V, h1, h2⟩ := h
  refine ⟨V, fun k hk2 => (h1 k hk2).kp hk, World.ownsRow.kept h2 hg ?_⟩
  cases A with
  | none => exact .inl rfl
  | some a => exact .inr fun e => hne a rfl e.symm
theorem MatX.ne (h : MatX w b0 o co n i A c len M) (hi : i < n) {a : Addr} (ha : A = some a) : a.block ≠ o := by
  obtain ⟨_, cur, h1⟩ := (h.own hi).blockA ha
  obtain ⟨_, cur', h2⟩ := h.mg.block
  intro e
  rw [e, h2] at h1
  injection h1 with h1
  injection h1 with _ h1 _
  exact absurd h1 (by decide)
theorem MatG.below (h : MatG w b0 o co n len M) (hb : Below w.heap.size w w') : MatG w' b0 o co n len M := by
  obtain ⟨A, c, Ar, cp, e1, e2, hd, h1, h2⟩ := h
  exact ⟨A, c, Ar, cp, e1, e2, hd, own_below h1 hb, fun j hj => (h2 j hj).below hb⟩
theorem MatX.below (h : MatX w b0 o co n i A c len M) (hb : Below w.heap.size w w') : MatX w' b0 o co n i A c len M := by
  obtain ⟨Ar, cp, e1, e2, hd, h1, h2⟩ := h
  exact ⟨Ar, cp, e1, e2, hd, own_below h1 hb, fun j hj => (h2 j hj).below hb⟩
theorem below_of_row {b0 : Nat} {row : Option Nat} (h : w.grownBy w' row) (hr : ∀ k, row = some k → b0 ≤ k) (hs : b0 ≤ w.heap.size) : Below b0 w w' :=
  ⟨h.os, h.tape, h.output, h.size, fun k hk => h.block k (by omega) (fun e => by have := hr k e.symm; omega)⟩
theorem Kp.of_grown {row : Option Nat} (h : w.grownBy w' row) (hr : ∀ k, row = some k → b0 ≤ k ∧ ∃ cur, w.heap[k]? = some (.cells cur 28 (0, 0))) : Kp b0 w w' := by
  cases row with
  | none => exact ⟨h.os, h.tape, h.output, h.size, fun k hk _ => h.block k hk (by simp)⟩
  | some g =>
    obtain ⟨h1, cur, h2⟩ := hr g rfl
    exact Kp.grown h h1 h2 (by decide)
/-- row i has been written or grown, and its head is stored -/
theorem MatX.put (h : MatX w b0 o co n i A c len M) (hi : i < n) (hg : w.grownBy w1 (Value.slice A (len i) c).ownBlock) (hnew : OwR w1 b0 (some ⟨g', 0, none⟩) c' k' (can f')) (hfr : (Value.slice A (len i) c).ownBlock = some g' ∨ w.heap.size ≤ g') (hs : b0 ≤ w.heap.size) :
    MatG (w1.setCell ⟨o, i, none⟩ (.slice (some ⟨g', 0, none⟩) k' c')) b0 o co n (upd len i k') (upd M i f') ∧ Kp b0 w (w1.setCell ⟨o, i, none⟩ (.slice (some ⟨g', 0, none⟩) k' c')) ∧ Below b0 w (w1.setCell ⟨o, i, none⟩ (.slice (some ⟨g', 0, none⟩) k' c')) := by
  have hX := h
  obtain ⟨Ar, cp, rfl, rfl, hd, h1, h2⟩ := h
  have hrow : ∀ k, (Value.slice (Ar i) (len i) (cp i)).ownBlock = some k → b0 ≤ k ∧ ∃ cur, w.heap[k]? = some (.cells cur 28 (0, 0)) := by
    intro k hk
    cases e : Ar i with
    | none => rw [e] at hk; cases hk
    | some a =>
      rw [e] at hk
      injection hk with hk
      subst hk
      exact (h2 i hi).blockA e
  have hk1 : Kp b0 w w1 := Kp.of_grown hg hrow
  have hb1 : Below b0 w w1 := below_of_row hg (fun k hk => (hrow k hk).1) hs
  have hne : ∀ k, (Value.slice (Ar i) (len i) (cp i)).ownBlock = some k → k ≠ o := by
    intro k hk
    cases e : Ar i with
    | none => rw [e] at hk; cases hk
    | some a =>
      rw [e] at hk
      injection hk with hk
      subst hk
      exact hX.ne hi e
  have hout := World.ownsRow.kept h1 hg (.inr fun e => hne o e.symm rfl)
  obtain ⟨hst, hgs⟩ := World.ownsRow.stored hout i (.slice (some ⟨g', 0, none⟩) k' c')
  rw [rowsC_set] at hst
  obtain ⟨hbo, curo, hho⟩ := hX.mg.block
  have hho1 : w1.heap[o]? = some (.cells curo 32 (0, 0)) := by
    rw [hg.block o hX.mg.lt (fun e => hne o e.symm rfl)]; exact hho
  have hk2 : Kp b0 w1 (w1.setCell ⟨o, i, none⟩ (.slice (some ⟨g', 0, none⟩) k' c')) := Kp.grown hgs hbo hho1 (by decide)
  have hgo : g' ≠ o := by
    rcases hfr with hfr | hfr
    · exact hne g' hfr
    · have := hX.mg.lt; omega
  refine ⟨⟨_, _, upd Ar i (some ⟨g', 0, none⟩), upd cp i c', rfl, rfl, ?_, hst, ?_⟩, hk1.trans hk2, ?_⟩
  · intro j j' hj hj' hjj a a' ha ha'
    by_cases e : j = i
    · subst e
      rw [upd_same] at ha
      rw [upd_ne _ _ (Ne.symm hjj)] at ha'
      injection ha with ha
      subst ha
      rcases hfr with hfr | hfr
      · cases e2 : Ar j with
        | none => rw [e2] at hfr; cases hfr
        | some b =>
          rw [e2] at hfr
          injection hfr with hfr
          have := hd j j' hj hj' hjj b a' e2 ha'
          show g' ≠ _
          rw [← hfr]; exact this
      · obtain ⟨_, cur, h3⟩ := (h2 j' hj').blockA ha'
        have := (Array.getElem?_eq_some_iff.1 h3).1
        show g' ≠ _
        omega
    · rw [upd_ne _ _ e] at ha
      by_cases e' : j' = i
      · subst e'
        rw [upd_same] at ha'
        injection ha' with ha'
        subst ha'
        rcases hfr with hfr | hfr
        · cases e2 : Ar j' with
          | none => rw [e2] at hfr; cases hfr
          | some b =>
            rw [e2] at hfr
            injection hfr with hfr
            have := hd j j' hj hj' hjj a b ha e2
            show _ ≠ g'
            rw [← hfr]; exact this
        · obtain ⟨_, cur, h3⟩ := (h2 j hj).blockA ha
          have := (Array.getElem?_eq_some_iff.1 h3).1
          show _ ≠ g'
          omega
      · rw [upd_ne _ _ e'] at ha'
        exact hd j j' hj hj' hjj a a' ha ha'
  · intro j hj
    by_cases e : j = i
    · subst e
      rw [upd_same, upd_same, upd_same, upd_same]
      exact hnew.keep hgs hk2 hgo
    · rw [upd_ne _ _ e, upd_ne _ _ e, upd_ne _ _ e, upd_ne _ _ e]
      have h3 := (h2 j hj).keepA hg hk1 (by
        intro a ha e2
        cases e3 : Ar i with
        | none => rw [e3] at e2; cases e2
        | some b =>
          rw [e3] at e2
          injection e2 with e2
          exact hd j i hj hi e a b ha e3 e2.symm)
      refine h3.keepA hgs hk2 ?_
      intro a ha e2
      injection e2 with e2
      have : MatX w b0 o co n j (Ar j) (cp j) len M := ⟨Ar, cp, rfl, rfl, hd, h1, h2⟩
      exact this.ne hj ha e2.symm
  · refine hb1.trans (below_of_row hgs (fun k hk => ?_) (Nat.le_trans hs hb1.size))
    injection hk with hk
    omega
/-- row i has been written in its place -/
theorem MatX.same (h : MatX w b0 o co n i (some ⟨g, 0, none⟩) c len M) (hi : i < n) (hg : w.grownBy w1 (some g)) (hnew : OwR w1 b0 (some ⟨g, 0, none⟩) c (len i) (can f')) (hs : b0 ≤ w.heap.size) :
    MatX w1 b0 o co n i (some ⟨g, 0, none⟩) c len (upd M i f') ∧ Kp b0 w w1 ∧ Below b0 w w1 := by
  have hX := h
  obtain ⟨Ar, cp, e1, e2, hd, h1, h2⟩ := h
  have hk1 : Kp b0 w w1 := (hX.own hi).kp hg
  have hne := hX.ne hi rfl
  refine ⟨⟨Ar, cp, e1, e2, hd, World.ownsRow.kept h1 hg (.inr fun e => by injection e with e; exact hne e.symm), ?_⟩, hk1, below_of_row hg (fun k hk => by injection hk with hk; have := (hX.own hi).block.1; omega) hs⟩
  intro j hj
  by_cases e : j = i
  · subst e
    rw [upd_same, e1, e2]; exact hnew
  · rw [upd_ne _ _ e]
    refine (h2 j hj).keepA hg hk1 ?_
    intro a ha e3
    injection e3 with e3
    exact hd j i hj hi e a _ ha e1 e3.symm
end
end Go.Proofs.YtglpknhcneggeaaGreatDoor
namespace Go.Proofs.YtglpknhcneggeaaGreatDoor
open Go.RowKit
set_option linter.unusedSimpArgs false
set_option linter.unusedVariables false
/-! ## making and growing rows and matrices -/
abbrev zr : Value := rv false none 0 0 none 0 0
theorem cellsV_zero3 (n : Nat) : (madeCells (Value.cells zr) (n * 3)).toList = cellsV n (fun _ => zr) := by
  have hz : Value.cells zr = #[.bool false, .slice none 0 0, .slice none 0 0] := rfl
  rw [hz]
  have hR : ∀ k, k < n → isR ((fun _ => zr) k) := fun k _ => ⟨false, none, 0, 0, none, 0, 0, rfl⟩
  apply List.ext_getElem?
  intro j
  by_cases hj : j < n * 3
  · obtain ⟨g0, g1, g2⟩ := cellsV_get (V := fun _ => zr) hR (show j / 3 < n by omega) (s := false) (A := none) (a := 0) (c := 0) (B := none) (b := 0) (d := 0) rfl
    have h3 : j % 3 < 3 := Nat.mod_lt _ (by omega)
    have e : j = j / 3 * 3 + j % 3 := by omega
    have lhs : (madeCells #[Value.bool false, .slice none 0 0, .slice none 0 0] (n * 3)).toList[j]? = some (#[Value.bool false, .slice none 0 0, .slice none 0 0][j % 3]!) := by
      simp [madeCells, hj]
    rw [lhs]
    rcases (show j % 3 = 0 ∨ j % 3 = 1 ∨ j % 3 = 2 by omega) with h | h | h
    · rw [h]; rw [h] at e; rw [e, Nat.add_zero, g0]; rfl
    · rw [h]; rw [h] at e; rw [e, g1]; rfl
    · rw [h]; rw [h] at e; rw [e, g2]; rfl
  · rw [List.getElem?_eq_none (by simp [size_madeCells]; omega), List.getElem?_eq_none (by rw [cellsV_length hR]; omega)]
theorem RdS.zero (w : World) (b0 : Nat) : RdS w b0 zr (canR 0) := (OwQ.zero w b0).rs
theorem sliceInfo : (Tryz.prog.info? 32).map (fun i => (i.zero, i.size, i.bytes)) = some (some (.slice none 0 0), 1, 24) := by kernel_rfl
/-- out := make([]api.Rat, n) -/
theorem wpList_makeR {w : World} {ops : Array Oper} {rest : List Oper} {o : Oper} {a : Act} {Q : Exit → Act → World → Prop}
    (hg : o.guard = none) (l c : Operand) (hop : o.op = Op.makeSlice 32 l c)
    (b0 n : Nat) (L C : Int) (hl : a.eval l = .int .i64 L) (hc : a.eval c = .int .i64 C) (hL : L = (n : Int)) (hC : C = (n : Int)) (hn : n ≤ 1000000) (hb : b0 ≤ w.heap.size)
    (h : ∀ w', OwR w' b0 (some ⟨w.heap.size, 0, none⟩) n n (can fun _ => 0) → Below w.heap.size w w' → wpList Tryz.prog ops Q rest (a.put o.dst (.slice (some ⟨w.heap.size, 0, none⟩) n n)) w') : wpList Tryz.prog ops Q (o :: rest) a w := by
  obtain ⟨i, hi, hz, hs, hby⟩ := info_parts ratInfo
  refine wpList_make_full w hg l c 32 hop b0 28 i zr 3 Tryz.underlying32 hi hz hs .i64 .i64 L C n hl hc hL hC (by rw [hby]; omega) (by unfold maxLen; omega) hb ?_
  intro w' h1 h2
  rw [cellsV_zero3] at h1
  exact h w' ⟨_, fun k _ => RdS.zero w' b0, h1⟩ ((Below.refl _ _).grown h2 (Nat.le_refl _) (by intro k hk; cases hk))
/-- out := make([][]api.Rat, n) -/
theorem wpList_makeM {w : World} {ops : Array Oper} {rest : List Oper} {o : Oper} {a : Act} {Q : Exit → Act → World → Prop}
    (hg : o.guard = none) (l c : Operand) (hop : o.op = Op.makeSlice 77 l c)
    (b0 n : Nat) (M : Nat → Nat → Rat) (L C : Int) (hl : a.eval l = .int .i64 L) (hc : a.eval c = .int .i64 C) (hL : L = (n : Int)) (hC : C = (n : Int)) (hn : n ≤ 1000000) (hb : b0 ≤ w.heap.size)
    (h : ∀ w', MatG w' b0 w.heap.size n n (fun _ => 0) M → Below w.heap.size w w' → wpList Tryz.prog ops Q rest (a.put o.dst (.slice (some ⟨w.heap.size, 0, none⟩) n n)) w') : wpList Tryz.prog ops Q (o :: rest) a w := by
  obtain ⟨i, hi, hz, hs, hby⟩ := info_parts sliceInfo
  refine wpList_make_full w hg l c 77 hop b0 32 i (.slice none 0 0) 1 Tryz.underlying77 hi hz hs .i64 .i64 L C n hl hc hL hC (by rw [hby]; omega) (by unfold maxLen; omega) hb ?_
  intro w' h1 h2
  have e : (madeCells (Value.cells (.slice none 0 0)) (n * 1)).toList = rowsC n (fun _ => none) (fun _ => 0) (fun _ => 0) := by
    rw [Nat.mul_one]
    show (madeCells #[Value.slice none 0 0] n).toList = _
    rw [toList_madeCells_one]
    apply List.ext_getElem (by simp [rowsC])
    intro j h1 h2
    simp [rowsC]
  rw [e] at h1
  refine h w' ⟨_, _, fun _ => none, fun _ => 0, rfl, rfl, (show Dist n (fun _ => none) from fun _ _ _ _ _ _ _ ha _ => nomatch ha), h1, fun j hj => OwR.nil_ _ _ _⟩ ((Below.refl _ _).grown h2 (Nat.le_refl _) (by intro k hk; cases hk))
/-- a row of fractions, and one more -/
theorem OwR.snoc {w w1 : World} {b0 n c' g' : Nat} {A : Option Addr} {c : Nat} {R : Nat → Rw} {V : Nat → Value} {v : Value} {r : Rw} (hV : ∀ k, k < n → RdS w b0 (V k) (R k)) (hr : RdS w b0 v r) (hk : Kp b0 w w1)
    (h : w1.ownsRow b0 28 3 (.slice (some ⟨g', 0, none⟩) (n + 1) c') (n + 1) (cellsV n V ++ c3 v)) : OwR w1 b0 (some ⟨g', 0, none⟩) c' (n + 1) (upd R n r) := by
  refine ⟨upd V n v, fun k hkn => ?_, ?_⟩
  · by_cases e : k = n
    · subst e; rw [upd_same, upd_same]; exact hr.kp hk
    · rw [upd_ne _ _ e, upd_ne _ _ e]; exact (hV k (by omega)).kp hk
  · rw [cellsV_succ, upd_same, cellsV_congr (U := V) fun j hj => upd_ne _ _ (by omega)]
    exact h
/-- out = append(out, x), at a step of a region that draws -/
theorem step_appR {w : World} {ops : Array Oper} {o : Oper} {a : Act} {K : Act → World → Prop} {Q : Exit → Act → World → Prop} {E : Prop} (hgd : o.guard = none) (s x : Operand)
    (ho : o.op = .call { callee := .builtin .append, args := #[s, x], argTypes := #[32, 32] })
    (b0 : Nat) (A : Option Addr) (c n : Nat) (R : Nat → Rw) (hs : a.eval s = .slice A n c) (hown : OwR w b0 A c n R)
    (B : Nat) (sg : Bool) (A1 : Option Addr) (n1 c1 : Nat) (B1 : Option Addr) (m1 d1 : Nat) (r : Rw) (hx : a.eval x = .slice (some ⟨B, 0, none⟩) 1 1)
    (hc0 : w.cell? ⟨B, 0, none⟩ = some (.bool sg)) (hc1 : w.cell? ⟨B, 1, none⟩ = some (.slice A1 n1 c1)) (hc2 : w.cell? ⟨B, 2, none⟩ = some (.slice B1 m1 d1)) (hr : RdS w b0 (rv sg A1 n1 c1 B1 m1 d1) r)
    (hn : n ≤ 1000000) (hbase : b0 ≤ w.heap.size)
    (h : ∀ g cap w', OwR w' b0 (some ⟨g, 0, none⟩) cap (n + 1) (upd R n r) → w.grownBy w' (Value.slice A n c).ownBlock → ((Value.slice A n c).ownBlock = some g ∨ w.heap.size ≤ g) → K (a.put o.dst (.slice (some ⟨g, 0, none⟩) (n + 1) cap)) w') :
    if Region.wanted o (yielded ops a.tmps) = true then Oper.wp Tryz.prog o a w K Q else E := by
  obtain ⟨i0, hi0, hz0, hz1, hz2⟩ := info_parts ratInfo
  have hown0 := hown
  obtain ⟨V, hV, hown⟩ := hown
  refine step_append_lies _ hgd s x 32 ho b0 28 i0 _ 3 56 Tryz.underlying32 hi0 hz0 hz1 hz2 rfl (by omega) _ n _ hs hown ⟨B, 0, none⟩ 1 1 (c3 (rv sg A1 n1 c1 B1 m1 d1)) hx rfl ?_ ?_ (by omega) (by unfold maxLen; omega) (by omega) hbase w.heap.size rfl ?_
  · intro j u hu
    rw [addr_add, Nat.zero_add]
    match j, hu with
    | 0, hu => simp [c3] at hu; subst hu; exact hc0
    | 1, hu => simp [c3] at hu; subst hu; exact hc1
    | 2, hu => simp [c3] at hu; subst hu; exact hc2
    | j + 3, hu => simp [c3] at hu
  · intro u hu
    simp [c3] at hu
    rcases hu with rfl | rfl | rfl <;> rfl
  · intro g cap w' h1 h2 h3 h4
    refine h g cap w' (OwR.snoc (A := A) (c := c) hV hr (Kp.of_grown h2 ?_) h1) h2 (h3.imp id fun e => by omega)
    intro k hk
    cases e : A with
    | none => rw [e] at hk; cases hk
    | some a =>
      rw [e] at hk
      injection hk with hk
      subst hk
      exact hown0.blockA e
theorem rowsC_congr {n : Nat} {Ar : Nat → Option Addr} {len len' cp : Nat → Nat} (h : ∀ i, i < n → len i = len' i) : rowsC n Ar len cp = rowsC n Ar len' cp := by
  unfold rowsC
  exact List.map_congr_left fun i hi => by rw [h i (List.mem_range.1 hi)]
theorem MatG.congr {w : World} {b0 o co n : Nat} {len len' : Nat → Nat} {M M' : Nat → Nat → Rat} (h : MatG w b0 o co n len M) (hl : ∀ i, i < n → len i = len' i) (hM : ∀ i k, i < n → k < len i → M i k = M' i k) : MatG w b0 o co n len' M' := by
  obtain ⟨A, c, Ar, cp, e1, e2, hd, h1, h2⟩ := h
  rw [rowsC_congr hl] at h1
  refine ⟨A, c, Ar, cp, e1, e2, hd, h1, fun j hj => ?_⟩
  rw [← hl j hj]
  exact (h2 j hj).congr fun k hk => by unfold can; rw [hM j k hj hk]
theorem own_blk (A : Option Addr) (n m c d : Nat) : (Value.slice A n c).ownBlock = (Value.slice A m d).ownBlock := by cases A <;> rfl
theorem MatX.put' {w w1 : World} {b0 o co n i c n0 c0 g' k' c' : Nat} {A : Option Addr} {len : Nat → Nat} {M : Nat → Nat → Rat} {f' : Nat → Rat} (h : MatX w b0 o co n i A c len M) (hi : i < n) (hg : w.grownBy w1 (Value.slice A n0 c0).ownBlock) (hnew : OwR w1 b0 (some ⟨g', 0, none⟩) c' k' (can f')) (hfr : (Value.slice A n0 c0).ownBlock = some g' ∨ w.heap.size ≤ g') (hs : b0 ≤ w.heap.size) :
    MatG (w1.setCell ⟨o, i, none⟩ (.slice (some ⟨g', 0, none⟩) k' c')) b0 o co n (upd len i k') (upd M i f') ∧ Kp b0 w (w1.setCell ⟨o, i, none⟩ (.slice (some ⟨g', 0, none⟩) k' c')) ∧ Below b0 w (w1.setCell ⟨o, i, none⟩ (.slice (some ⟨g', 0, none⟩) k' c')) := by
  rw [own_blk A n0 (len i) c0 c] at hg hfr
  exact h.put hi hg hnew hfr hs
theorem upd_self {α : Type} (f : Nat → α) (k : Nat) : upd f k (f k) = f := by
  funext j
  unfold upd
  split
  · rename_i h; rw [h]
  · rfl
theorem upd_can {f : Nat → Rat} {k : Nat} {q : Rat} : upd (can f) k (canR q) = can (upd f k q) := by
  funext j
  show (if j = k then canR q else canR (f j)) = canR (if j = k then q else f j)
  by_cases h : j = k
  · rw [if_pos h, if_pos h]
  · rw [if_neg h, if_neg h]
end Go.Proofs.YtglpknhcneggeaaGreatDoor
namespace Go.Proofs.YtglpknhcneggeaaGreatDoor
set_option linter.unusedSimpArgs false
open Go.RowKit
set_option linter.unusedVariables false
/-! ## rows whose words lie in blocks of words -/
/-- base 0: the row's words lie in blocks of words; far: the row's block is a new one -/
def RetW (base n : Nat) (f : Nat → Rat) (e : Ending) (w : World) : Prop := ∃ A c, e = .returned (.slice A n c) ∧ OwR w 0 A c n (can f) ∧ ∀ q, (Value.slice A n c).ownBlock = some q → base ≤ q
theorem OwR.raise {w : World} {b c n : Nat} {A : Option Addr} {R : Nat → Rw} (h : OwR w 0 A c n R) (hf : ∀ q, (Value.slice A n c).ownBlock = some q → b ≤ q) : OwR w b A c n R := by
  obtain ⟨V, h1, h2⟩ := h
  refine ⟨V, fun k hk => (h1 k hk).base (Nat.zero_le _), h2.1, ?_⟩
  rcases h2.2 with h3 | ⟨g, cap, cur, e, hb, rest⟩
  · exact .inl h3
  · exact .inr ⟨g, cap, cur, e, hf g (by rw [e]; rfl), rest⟩
end Go.Proofs.YtglpknhcneggeaaGreatDoor
namespace Go.Proofs.YtglpknhcneggeaaGreatDoor
open Go.RowKit
set_option linter.unusedSimpArgs false
set_option linter.unusedVariables false
set_option maxRecDepth 20000
attribute [local irreducible] nv wp win plainB validR valR canR
/-! ## appending to rows and to rows of rows -/
theorem wpList_appR1 {w : World} {ops : Array Oper} {rest : List Oper} {o : Oper} {a : Act} {Q : Exit → Act → World → Prop} (hgd : o.guard = none) (s x : Operand)
    (ho : o.op = .call { callee := .builtin .append, args := #[s, x], argTypes := #[32, 32] })
    (b0 : Nat) (A : Option Addr) (c n : Nat) (R : Nat → Rw) (hs : a.eval s = .slice A n c) (hown : OwR w b0 A c n R)
    (B : Nat) (sg : Bool) (A1 : Option Addr) (n1 c1 : Nat) (B1 : Option Addr) (m1 d1 : Nat) (r : Rw) (hx : a.eval x = .slice (some ⟨B, 0, none⟩) 1 1)
    (hc0 : w.cell? ⟨B, 0, none⟩ = some (.bool sg)) (hc1 : w.cell? ⟨B, 1, none⟩ = some (.slice A1 n1 c1)) (hc2 : w.cell? ⟨B, 2, none⟩ = some (.slice B1 m1 d1)) (hr : RdS w b0 (rv sg A1 n1 c1 B1 m1 d1) r)
    (hn : n ≤ 1000000) (hbase : b0 ≤ w.heap.size)
    (h : ∀ A' cap w', OwR w' b0 A' cap (n + 1) (upd R n r) → w.grownBy w' (Value.slice A n c).ownBlock → (∀ q, (Value.slice A' (n + 1) cap).ownBlock = some q → (Value.slice A n c).ownBlock = some q ∨ w.heap.size ≤ q) → wpList Tryz.prog ops Q rest (a.put o.dst (.slice A' (n + 1) cap)) w') : wpList Tryz.prog ops Q (o :: rest) a w := by
  obtain ⟨i0, hi0, hz0, hz1, hz2⟩ := info_parts ratInfo
  have hown0 := hown
  obtain ⟨V, hV, hown⟩ := hown
  refine wpList_append_lies _ hgd s x 32 ho b0 28 i0 _ 3 56 Tryz.underlying32 hi0 hz0 hz1 hz2 rfl (by omega) _ n _ hs hown ⟨B, 0, none⟩ 1 1 (c3 (rv sg A1 n1 c1 B1 m1 d1)) hx rfl ?_ ?_ (by omega) (by unfold maxLen; omega) (by omega) hbase w.heap.size rfl ?_
  · intro j u hu
    rw [addr_add, Nat.zero_add]
    match j, hu with
    | 0, hu => simp [c3] at hu; subst hu; exact hc0
    | 1, hu => simp [c3] at hu; subst hu; exact hc1
    | 2, hu => simp [c3] at hu; subst hu; exact hc2
    | j + 3, hu => simp [c3] at hu
  · intro u hu
    simp [c3] at hu
    rcases hu with rfl | rfl | rfl <;> rfl
  · intro g cap w' h1 h2 h3 h4
    refine h _ cap w' (OwR.snoc (A := A) (c := c) hV hr (Kp.of_grown h2 ?_) h1) h2 (fun q hq => by injection hq with hq; subst hq; exact h3.imp id fun e => by show w.heap.size ≤ g; omega)
    intro k hk
    cases e : A with
    | none => rw [e] at hk; cases hk
    | some a =>
      rw [e] at hk
      injection hk with hk
      subst hk
      exact hown0.blockA e
/-- a matrix of the call's own, its rows anywhere among the call's own blocks -/
def MatO (w : World) (b : Nat) (A : Option Addr) (c n : Nat) (len : Nat → Nat) (M : Nat → Nat → Rat) : Prop :=
  ∃ Ar cp, w.ownsRow b 32 1 (.slice A n c) n (rowsC n Ar len cp) ∧ ∀ j, j < n → OwR w b (Ar j) (cp j) (len j) (can (M j))
theorem MatO.nil_ (w : World) (b : Nat) (len : Nat → Nat) (M : Nat → Nat → Rat) : MatO w b none 0 0 len M := ⟨fun _ => none, fun _ => 0, own_nil w b _ 1, fun j h => by omega⟩
theorem MatO.below {w w' : World} {b c n : Nat} {A : Option Addr} {len : Nat → Nat} {M : Nat → Nat → Rat} (h : MatO w b A c n len M) (hb : Below w.heap.size w w') : MatO w' b A c n len M := by
  obtain ⟨Ar, cp, h1, h2⟩ := h
  exact ⟨Ar, cp, own_below h1 hb, fun j hj => (h2 j hj).below hb⟩
theorem Rds.blk {w : World} {s n : Nat} {A : Option Addr} {xs : List Value} (h : Rds w w.heap.size s A n xs) (hn : 0 < n) : BlkIn (fun b => b < w.heap.size) A n := by
  intro _ a ha
  obtain ⟨b, off, e, hb, _⟩ := h.2 hn
  rw [e] at ha
  injection ha with ha
  subst ha
  exact hb
theorem OwR.ri {w : World} {b c n : Nat} {A : Option Addr} {R : Nat → Rw} (h : OwR w b A c n R) (hb : b ≤ w.heap.size) : RowI w w.heap.size A n R := by
  obtain ⟨V, h1, h2⟩ := h.ra
  refine ⟨V, fun k hk => (h1 k hk).base hb, h2, fun hn => ?_⟩
  exact Rds.blk h2 hn hn
theorem MatO.mi {w : World} {b c n : Nat} {A : Option Addr} {len : Nat → Nat} {M : Nat → Nat → Rat} (h : MatO w b A c n len M) (hb : b ≤ w.heap.size) : MatI w w.heap.size A n len (fun i => can (M i)) := by
  obtain ⟨Ar, cp, h1, h2⟩ := h
  have h3 := Rds.of_own h1
  exact ⟨Ar, cp, h3, fun hn => Rds.blk h3 hn hn, fun i hi => ⟨(h2 i hi).cap, (h2 i hi).ri hb⟩⟩
theorem wpList_appMk {w : World} {ops : Array Oper} {rest : List Oper} {o : Oper} {a : Act} {Q : Exit → Act → World → Prop} (hgd : o.guard = none) (s x : Operand)
    (ho : o.op = .call { callee := .builtin .append, args := #[s, x], argTypes := #[77, 77] })
    (b : Nat) (A : Option Addr) (c n : Nat) (len : Nat → Nat) (M : Nat → Nat → Rat) (hs : a.eval s = .slice A n c) (hown : MatO w b A c n len M)
    (B : Nat) (hx : a.eval x = .slice (some ⟨B, 0, none⟩) 1 1) (A1 : Option Addr) (c1 : Nat) (hc0 : w.cell? ⟨B, 0, none⟩ = some (.slice A1 (len n) c1)) (hr : OwR w b A1 c1 (len n) (can (M n))) 
    (hn : n ≤ 1000000) (hbase : b ≤ w.heap.size)
    (h : ∀ A' c' w', MatO w' b A' c' (n + 1) len M → Below b w w' → (∀ (A0 : Option Addr) (c0 k : Nat) (R : Nat → Rw), OwR w b A0 c0 k R → OwR w' b A0 c0 k R) → wpList Tryz.prog ops Q rest (a.put o.dst (.slice A' (n + 1) c')) w') : wpList Tryz.prog ops Q (o :: rest) a w := by
  obtain ⟨Ar, cp, h1, h2⟩ := hown
  have hrd : Rds w w.heap.size 1 (some ⟨B, 0, none⟩) 1 [.slice A1 (len n) c1] := ⟨rfl, fun _ => ⟨B, 0, rfl, lt_of_cell hc0, fun j u hu => by
    rw [Nat.zero_add]
    match j, hu with
    | 0, hu => simp at hu; subst hu; exact hc0
    | j + 1, hu => simp at hu⟩⟩
  have hblk : ∀ k, (Value.slice A n c).ownBlock = some k → ∃ cur, w.heap[k]? = some (.cells cur 32 (0, 0)) := by
    intro k hk
    rcases h1.2 with ⟨h, _⟩ | ⟨g', cap, cur, e, hb, hg, _⟩
    · rw [h] at hk; cases hk
    · rw [e] at hk; injection hk with hk; subst hk; exact ⟨cur, hg⟩
  refine wpList_app hgd s x 77 ho b 32 _ 1 24 Tryz.underlying77 sliceInfo rfl (by decide) A c n _ hs h1 w.heap.size _ 1 1 _ hx hrd (by intro u hu; simp at hu; subst hu; rfl) (by unfold maxLen; omega) (by omega) hbase ?_
  intro A' c' w' g1 g2 g3 g4
  have hkp : Kp b w w' := by
    have : ∀ k, b ≤ k → True := fun _ _ => trivial
    cases hrow : (Value.slice A n c).ownBlock with
    | none => rw [hrow] at g3; exact Kp.of_below ⟨g3.os, g3.tape, g3.output, g3.size, fun k hk => g3.block k hk (by simp)⟩
    | some g =>
      rw [hrow] at g3
      obtain ⟨cur, hc⟩ := hblk g hrow
      refine Kp.grown g3 ?_ hc (by decide)
      exact (World.ownsRow.lt h1 g hrow).1
  have hkeep : ∀ {A0 : Option Addr} {c0 k : Nat} {R : Nat → Rw}, OwR w b A0 c0 k R → OwR w' b A0 c0 k R := fun {A0 c0 k R} h0 => h0.keepA g3 hkp fun a0 ha0 e => by
    obtain ⟨_, cur1, e1⟩ := h0.blockA ha0
    obtain ⟨cur2, e2⟩ := hblk _ e
    rw [e1] at e2
    injection e2 with e2
    injection e2 with _ e2
    exact absurd e2 (by decide)
  refine h A' c' w' ⟨upd Ar n A1, upd cp n c1, ?_, fun j hj => ?_⟩ g2 (fun A0 c0 k R h0 => hkeep h0)
  · have e : rowsC (n + 1) (upd Ar n A1) len (upd cp n c1) = rowsC n Ar len cp ++ [.slice A1 (len n) c1] := by
      unfold rowsC
      rw [List.range_succ, List.map_append]
      congr 1
      · exact List.map_congr_left fun i hi => by rw [upd_ne _ _ (by have := List.mem_range.1 hi; omega), upd_ne _ _ (by have := List.mem_range.1 hi; omega)]
      · simp [upd_same]
    rw [e]
    exact g1
  · by_cases e : j = n
    · subst e; rw [upd_same, upd_same]; exact hkeep hr
    · rw [upd_ne _ _ e, upd_ne _ _ e]; exact hkeep (h2 j (by omega))
theorem wpList_appM {w : World} {ops : Array Oper} {rest : List Oper} {o : Oper} {a : Act} {Q : Exit → Act → World → Prop} (hgd : o.guard = none) (s x : Operand)
    (ho : o.op = .call { callee := .builtin .append, args := #[s, x], argTypes := #[77, 77] })
    (b : Nat) (A : Option Addr) (c n : Nat) (len : Nat → Nat) (M : Nat → Nat → Rat) (hs : a.eval s = .slice A n c) (hown : MatO w b A c n len M)
    (B : Nat) (hx : a.eval x = .slice (some ⟨B, 0, none⟩) 1 1) (A1 : Option Addr) (c1 : Nat) (hc0 : w.cell? ⟨B, 0, none⟩ = some (.slice A1 (len n) c1)) (hr : OwR w b A1 c1 (len n) (can (M n))) 
    (hn : n ≤ 1000000) (hbase : b ≤ w.heap.size)
    (h : ∀ A' c' w', MatO w' b A' c' (n + 1) len M → Below b w w' → wpList Tryz.prog ops Q rest (a.put o.dst (.slice A' (n + 1) c')) w') : wpList Tryz.prog ops Q (o :: rest) a w :=
  wpList_appMk hgd s x ho b A c n len M hs hown B hx A1 c1 hc0 hr hn hbase fun A' c' w' h1 h2 _ => h A' c' w' h1 h2
end Go.Proofs.YtglpknhcneggeaaGreatDoor
