/- Contracts of functions and lemmas, used by the proofs of the given statements. No condition beyond those that each lemma names. -/
import Derived.Test.YtoiopnmphbnjaaaGreatDoorLinDef
import Derived.Test.YtoiopnmphbnjaaaGreatDoorRowB
namespace Go.Proofs.YtoiopnmphbnjaaaGreatDoor
open Go.RowKit
set_option linter.unusedSimpArgs false
set_option linter.unusedVariables false
/-! ## slices of fractions in memory -/
/-- a slice that reads as the fractions R -/
def RowA (w : World) (b0 : Nat) (A : Option Addr) (n : Nat) (R : Nat → Rw) : Prop :=
  ∃ V, (∀ k, k < n → RdS w b0 (V k) (R k)) ∧ Rds w w.heap.size 3 A n (cellsV n V)
/-- .. in a row that a call has made -/
def OwR (w : World) (b0 : Nat) (A : Option Addr) (c n : Nat) (R : Nat → Rw) : Prop :=
  ∃ V, (∀ k, k < n → RdS w b0 (V k) (R k)) ∧ w.ownsRow b0 56 3 (.slice A n c) n (cellsV n V)
section
variable {b0 n c g : Nat} {w w' : World} {A : Option Addr} {R U : Nat → Rw}
theorem RdS.isR {v : Value} {r : Rw} (h : RdS w b0 v r) : isR v := h.form
theorem OwR.congr (h : OwR w b0 A c n R) (e : ∀ k, k < n → R k = U k) : OwR w b0 A c n U := by
  obtain ⟨V, h1, h2⟩ := h
  exact ⟨V, fun k hk => e k hk ▸ h1 k hk, h2⟩
theorem OwR.nil_ (w : World) (b0 : Nat) (R : Nat → Rw) : OwR w b0 none 0 0 R := ⟨fun _ => .nilIface, fun _ h => by omega, own_nil w b0 _ 3⟩
theorem OwR.ra (h : OwR w b0 A c n R) : RowA w b0 A n R := by
  obtain ⟨V, h1, h2⟩ := h
  exact ⟨V, h1, Rds.of_own h2⟩
theorem RowA.below (h : RowA w b0 A n R) (hb : Below w.heap.size w w') : RowA w' b0 A n R := by
  obtain ⟨V, h1, h2⟩ := h
  exact ⟨V, fun k hk => (h1 k hk).kp (Kp.of_below hb), Rds.more (Rds.below h2 hb) hb.size⟩
theorem OwR.below (h : OwR w b0 A c n R) (hb : Below w.heap.size w w') : OwR w' b0 A c n R := by
  obtain ⟨V, h1, h2⟩ := h
  exact ⟨V, fun k hk => (h1 k hk).kp (Kp.of_below hb), own_below h2 hb⟩
/-- element k -/
theorem RowA.at_ (h : RowA w b0 A n R) {k : Nat} (hk : k < n) : ∃ b off s A1 n1 c1 B1 m1 d1, A = some ⟨b, off, none⟩ ∧ b < w.heap.size ∧ w.cell? ⟨b, off + k * 3, none⟩ = some (.bool s) ∧ w.cell? ⟨b, off + k * 3 + 1, none⟩ = some (.slice A1 n1 c1) ∧ w.cell? ⟨b, off + k * 3 + 2, none⟩ = some (.slice B1 m1 d1) ∧ RdS w b0 (rv s A1 n1 c1 B1 m1 d1) (R k) := by
  obtain ⟨V, h1, h2⟩ := h
  obtain ⟨b, off, e, hb, hc⟩ := h2.2 (by omega)
  have hv := h1 k hk
  obtain ⟨s, A1, n1, c1, B1, m1, d1, ev⟩ := hv.form
  rw [ev] at hv
  obtain ⟨g0, g1, g2⟩ := cellsV_get (fun k hk => (h1 k hk).isR) hk ev
  exact ⟨b, off, s, A1, n1, c1, B1, m1, d1, e, hb, hc _ _ g0, by rw [Nat.add_assoc]; exact hc _ _ g1, by rw [Nat.add_assoc]; exact hc _ _ g2, hv⟩
theorem OwR.at_ (h : OwR w b0 (some ⟨g, 0, none⟩) c n R) {k : Nat} (hk : k < n) : ∃ s A1 n1 c1 B1 m1 d1, w.cell? ⟨g, k * 3, none⟩ = some (.bool s) ∧ w.cell? ⟨g, k * 3 + 1, none⟩ = some (.slice A1 n1 c1) ∧ w.cell? ⟨g, k * 3 + 2, none⟩ = some (.slice B1 m1 d1) ∧ RdS w b0 (rv s A1 n1 c1 B1 m1 d1) (R k) := by
  obtain ⟨b, off, s, A1, n1, c1, B1, m1, d1, e, hb, h0, h1, h2, h3⟩ := h.ra.at_ hk
  injection e with e
  injection e with e1 e2
  subst e1 e2
  rw [Nat.zero_add] at h0 h1 h2
  exact ⟨s, A1, n1, c1, B1, m1, d1, h0, h1, h2, h3⟩
theorem OwR.block (h : OwR w b0 (some ⟨g, 0, none⟩) c n R) : b0 ≤ g ∧ ∃ cur, w.heap[g]? = some (.cells cur 56 (0, 0)) := by
  obtain ⟨V, h1, h2⟩ := h
  rcases h2.2 with ⟨h, _⟩ | ⟨g', cap, cur, e, hb, hg, _⟩
  · cases h
  · injection e with e
    injection e with e
    injection e with e
    subst e
    exact ⟨hb, cur, hg⟩
theorem OwR.lt (h : OwR w b0 (some ⟨g, 0, none⟩) c n R) : g < w.heap.size := by
  obtain ⟨_, cur, h⟩ := h.block
  exact (Array.getElem?_eq_some_iff.1 h).1
theorem OwR.frozen (h : OwR w b0 (some ⟨g, 0, none⟩) c n R) (k : Nat) : w.frozen? ⟨g, k, none⟩ = false := by
  obtain ⟨V, h1, h2⟩ := h
  exact World.ownsRow.frozenAt h2 k
theorem OwR.kp (h : OwR w b0 (some ⟨g, 0, none⟩) c n R) (hg : w.grownBy w' (some g)) : Kp b0 w w' := by
  obtain ⟨h1, cur, h2⟩ := h.block
  exact Kp.grown hg h1 h2 (by decide)
/-- another row is written -/
theorem OwR.keep (h : OwR w b0 (some ⟨g, 0, none⟩) c n R) {g' : Nat} (hg : w.grownBy w' (some g')) (hk : Kp b0 w w') (hne : g ≠ g') : OwR w' b0 (some ⟨g, 0, none⟩) c n R := by
  obtain ⟨V, h1, h2⟩ := h
  refine ⟨V, fun k hk2 => (h1 k hk2).kp hk, World.ownsRow.kept h2 hg (.inr ?_)⟩
  intro e
  injection e with e
  exact hne e
theorem grown_trans {a b d : World} {row : Option Nat} (h : a.grownBy b row) (k : b.grownBy d row) : a.grownBy d row :=
  ⟨k.os.trans h.os, k.tape.trans h.tape, k.output.trans h.output, Nat.le_trans h.size k.size, fun i hi hne => (k.block i (Nat.lt_of_lt_of_le hi h.size) hne).trans (h.block i hi hne)⟩
theorem grown_of_below {a b : World} (h : Below a.heap.size a b) (row : Option Nat) : a.grownBy b row := ⟨h.os, h.tape, h.output, h.size, fun k hk _ => h.block k hk⟩
theorem grown_at {a b : World} {g : Nat} (h : a.grownBy b (some g)) {k : Nat} (o : Nat) (hk : k < a.heap.size) (hne : k ≠ g) : b.cell? ⟨k, o, none⟩ = a.cell? ⟨k, o, none⟩ :=
  World.cell?_of_block (a := ⟨k, o, none⟩) (h.block k hk (by intro e; injection e with e; exact hne e))
/-- element k is stored -/
theorem OwR.set (h : OwR w b0 (some ⟨g, 0, none⟩) c n R) {k : Nat} (hk : k < n) {s : Bool} {A1 : Option Addr} {n1 c1 : Nat} {B1 : Option Addr} {m1 d1 : Nat} {r : Rw} (hr : RdS w b0 (rv s A1 n1 c1 B1 m1 d1) r) :
    OwR (((w.setCell ⟨g, k * 3, none⟩ (.bool s)).setCell ⟨g, k * 3 + 1, none⟩ (.slice A1 n1 c1)).setCell ⟨g, k * 3 + 2, none⟩ (.slice B1 m1 d1)) b0 (some ⟨g, 0, none⟩) c n (upd R k r) ∧
    w.grownBy (((w.setCell ⟨g, k * 3, none⟩ (.bool s)).setCell ⟨g, k * 3 + 1, none⟩ (.slice A1 n1 c1)).setCell ⟨g, k * 3 + 2, none⟩ (.slice B1 m1 d1)) (some g) := by
  have h9 := h
  obtain ⟨V, h1, h2⟩ := h
  obtain ⟨s0, t0⟩ := World.ownsRow.stored h2 (k * 3) (.bool s)
  obtain ⟨s1, t1⟩ := World.ownsRow.stored s0 (k * 3 + 1) (.slice A1 n1 c1)
  obtain ⟨s2, t2⟩ := World.ownsRow.stored s1 (k * 3 + 2) (.slice B1 m1 d1)
  have hgr := grown_trans (grown_trans t0 t1) t2
  have hkp := h9.kp hgr
  rw [cellsV_set (fun k hk => (h1 k hk).isR) hk] at s2
  refine ⟨⟨upd V k (rv s A1 n1 c1 B1 m1 d1), fun j hj => ?_, s2⟩, hgr⟩
  by_cases e : j = k
  · subst e; rw [upd_same, upd_same]; exact hr.kp hkp
  · rw [upd_ne _ _ e, upd_ne _ _ e]; exact (h1 j hj).kp hkp
end
end Go.Proofs.YtoiopnmphbnjaaaGreatDoor
namespace Go.Proofs.YtoiopnmphbnjaaaGreatDoor
open Go.RowKit
set_option linter.unusedSimpArgs false
set_option linter.unusedVariables false
set_option maxRecDepth 20000
attribute [local irreducible] nv wp win plainB validR valR canR
/-! ## package linear: less -/
abbrev can (f : Nat → Rat) : Nat → Rw := fun k => canR (f k)
theorem sgnQ_zero {q : Rat} : sgnQ q = 0 ↔ q = 0 := by
  unfold sgnQ
  constructor
  · intro h
    by_cases h0 : q = 0
    · exact h0
    · rw [if_neg h0] at h
      split at h <;> omega
  · intro h; rw [if_pos h]
end Go.Proofs.YtoiopnmphbnjaaaGreatDoor
namespace Go.Proofs.YtoiopnmphbnjaaaGreatDoor
open Go.RowKit
set_option linter.unusedSimpArgs false
set_option linter.unusedVariables false
/-! ## matrices: slices of slices of fractions -/
/-- a slice of fractions that came in -/
def RowI (w : World) (b0 : Nat) (A : Option Addr) (n : Nat) (R : Nat → Rw) : Prop :=
  ∃ V, (∀ k, k < n → RdS w b0 (V k) (R k)) ∧ Rds w w.heap.size 3 A n (cellsV n V) ∧ BlkIn (fun b => b < b0) A n
theorem RowI.ra {w : World} {b0 n : Nat} {A : Option Addr} {R : Nat → Rw} (h : RowI w b0 A n R) : RowA w b0 A n R := by
  obtain ⟨V, h1, h2, _⟩ := h
  exact ⟨V, h1, h2⟩
theorem Rds.kp {w w' : World} {b0 size n : Nat} {A : Option Addr} {xs : List Value} (h : Rds w w.heap.size size A n xs) (hs : BlkIn (fun b => b < b0) A n) (k : Kp b0 w w') : Rds w' w'.heap.size size A n xs := by
  refine ⟨h.1, fun hn => ?_⟩
  obtain ⟨b, off, rfl, hb, hc⟩ := h.2 hn
  exact ⟨b, off, rfl, Nat.lt_of_lt_of_le hb k.size, fun j u hu => (k.cell hb (.inl (hs hn _ rfl))).trans (hc j u hu)⟩
theorem RowI.kp {w w' : World} {b0 n : Nat} {A : Option Addr} {R : Nat → Rw} (h : RowI w b0 A n R) (k : Kp b0 w w') : RowI w' b0 A n R := by
  obtain ⟨V, h1, h2, h3⟩ := h
  exact ⟨V, fun i hi => (h1 i hi).kp k, Rds.kp h2 h3 k, h3⟩
def rowsC (n : Nat) (Ar : Nat → Option Addr) (len cp : Nat → Nat) : List Value := (List.range n).map fun i => .slice (Ar i) (len i) (cp i)
theorem rowsC_length (n : Nat) (Ar : Nat → Option Addr) (len cp : Nat → Nat) : (rowsC n Ar len cp).length = n := by simp [rowsC]
theorem rowsC_get {n : Nat} {Ar : Nat → Option Addr} {len cp : Nat → Nat} {i : Nat} (h : i < n) : (rowsC n Ar len cp)[i]? = some (.slice (Ar i) (len i) (cp i)) := by simp [rowsC, h]
theorem rowsC_set {n : Nat} {Ar : Nat → Option Addr} {len cp : Nat → Nat} {i : Nat} (A : Option Addr) (k c : Nat) : (rowsC n Ar len cp).set i (.slice A k c) = rowsC n (upd Ar i A) (upd len i k) (upd cp i c) := by
  apply List.ext_getElem? 
  intro j
  by_cases h : j = i
  · subst h
    by_cases hn : j < n
    · rw [List.getElem?_set_self (by rw [rowsC_length]; exact hn), rowsC_get hn, upd_same, upd_same, upd_same]
    · rw [List.getElem?_eq_none (by rw [List.length_set, rowsC_length]; omega), List.getElem?_eq_none (by rw [rowsC_length]; omega)]
  · rw [List.getElem?_set_ne (Ne.symm h)]
    by_cases hn : j < n
    · rw [rowsC_get hn, rowsC_get hn, upd_ne _ _ h, upd_ne _ _ h, upd_ne _ _ h]
    · rw [List.getElem?_eq_none (by rw [rowsC_length]; omega), List.getElem?_eq_none (by rw [rowsC_length]; omega)]
/-- a matrix that came in, its rows of whatever lengths -/
def MatI (w : World) (b0 : Nat) (A : Option Addr) (n : Nat) (len : Nat → Nat) (R : Nat → Nat → Rw) : Prop :=
  ∃ Ar cp, Rds w w.heap.size 1 A n (rowsC n Ar len cp) ∧ BlkIn (fun b => b < b0) A n ∧ ∀ i, i < n → len i ≤ cp i ∧ RowI w b0 (Ar i) (len i) (R i)
section
variable {w w' w1 : World} {b0 o co n i c g g' k' c' : Nat} {A : Option Addr} {len : Nat → Nat} {R : Nat → Nat → Rw} {M : Nat → Nat → Rat} {f' : Nat → Rat}
theorem MatI.kp (h : MatI w b0 A n len R) (k : Kp b0 w w') : MatI w' b0 A n len R := by
  obtain ⟨Ar, cp, h1, h2, h3⟩ := h
  exact ⟨Ar, cp, Rds.kp h1 h2 k, h2, fun i hi => ⟨(h3 i hi).1, (h3 i hi).2.kp k⟩⟩
theorem MatI.at_ (h : MatI w b0 A n len R) (hi : i < n) : ∃ b off Ai ci, A = some ⟨b, off, none⟩ ∧ b < w.heap.size ∧ w.cell? ⟨b, off + i, none⟩ = some (.slice Ai (len i) ci) ∧ len i ≤ ci ∧ RowI w b0 Ai (len i) (R i) := by
  obtain ⟨Ar, cp, h1, h2, h3⟩ := h
  obtain ⟨b, off, e, hb, hc⟩ := h1.2 (by omega)
  exact ⟨b, off, Ar i, cp i, e, hb, hc i _ (rowsC_get hi), (h3 i hi).1, (h3 i hi).2⟩
def Dist (n : Nat) (Ar : Nat → Option Addr) : Prop := ∀ j j', j < n → j' < n → j ≠ j' → ∀ a a', Ar j = some a → Ar j' = some a' → a.block ≠ a'.block
/-- a matrix of the call's own, the head of row i written out -/
def MatX (w : World) (b0 o co n i : Nat) (A : Option Addr) (c : Nat) (len : Nat → Nat) (M : Nat → Nat → Rat) : Prop :=
  ∃ Ar cp, Ar i = A ∧ cp i = c ∧ Dist n Ar ∧ w.ownsRow b0 23 1 (.slice (some ⟨o, 0, none⟩) n co) n (rowsC n Ar len cp) ∧ ∀ j, j < n → OwR w b0 (Ar j) (cp j) (len j) (can (M j))
def MatG (w : World) (b0 o co n : Nat) (len : Nat → Nat) (M : Nat → Nat → Rat) : Prop := ∃ A c, MatX w b0 o co n 0 A c len M
theorem MatX.mg (h : MatX w b0 o co n i A c len M) : MatG w b0 o co n len M := by
  obtain ⟨Ar, cp, _, _, h⟩ := h
  exact ⟨_, _, Ar, cp, rfl, rfl, h⟩
theorem MatG.row (h : MatG w b0 o co n len M) (i : Nat) : ∃ A c, MatX w b0 o co n i A c len M := by
  obtain ⟨_, _, Ar, cp, _, _, h⟩ := h
  exact ⟨_, _, Ar, cp, rfl, rfl, h⟩
theorem MatX.own (h : MatX w b0 o co n i A c len M) (hi : i < n) : OwR w b0 A c (len i) (can (M i)) := by
  obtain ⟨Ar, cp, rfl, rfl, _, _, h⟩ := h
  exact h i hi
theorem MatX.cell (h : MatX w b0 o co n i A c len M) (hi : i < n) : w.cell? ⟨o, i, none⟩ = some (.slice A (len i) c) := by
  obtain ⟨Ar, cp, rfl, rfl, _, h1, h⟩ := h
  rw [World.ownsRow.cellAt h1 i (by omega), rowsC_get hi]
theorem MatG.frozen (h : MatG w b0 o co n len M) (k : Nat) : w.frozen? ⟨o, k, none⟩ = false := by
  obtain ⟨_, _, Ar, cp, _, _, _, h1, h⟩ := h
  exact World.ownsRow.frozenAt h1 k
theorem MatG.block (h : MatG w b0 o co n len M) : b0 ≤ o ∧ ∃ cur, w.heap[o]? = some (.cells cur 23 (0, 0)) := by
  obtain ⟨_, _, Ar, cp, _, _, _, h2, h⟩ := h
  rcases h2.2 with ⟨h, _⟩ | ⟨g', cap, cur, e, hb, hg, _⟩
  · cases h
  · injection e with e
    injection e with e
    injection e with e
    subst e
    exact ⟨hb, cur, hg⟩
theorem MatG.lt (h : MatG w b0 o co n len M) : o < w.heap.size := by
  obtain ⟨_, cur, h⟩ := h.block
  exact (Array.getElem?_eq_some_iff.1 h).1
theorem OwR.blockA {A : Option Addr} {a : Addr} {R : Nat → Rw} (h : OwR w b0 A c n R) (ha : A = some a) : b0 ≤ a.block ∧ ∃ cur, w.heap[a.block]? = some (.cells cur 56 (0, 0)) := by
  subst ha
  obtain ⟨V, h1, h2⟩ := h
  rcases h2.2 with ⟨h, _⟩ | ⟨g', cap, cur, e, hb, hg, _⟩
  · cases h
  · injection e with e
    injection e with e
    subst e
    exact ⟨hb, cur, hg⟩
theorem OwR.form {R' : Nat → Rw} (h : OwR w b0 A c n R') (hn : 0 < n) : ∃ g, A = some ⟨g, 0, none⟩ := by
  obtain ⟨V, h1, h2⟩ := h
  rcases h2.2 with ⟨_, h⟩ | ⟨g', cap, cur, e, hb, hg, _⟩
  · omega
  · injection e with e
    exact ⟨g', e⟩
theorem OwR.keepA {A : Option Addr} {R : Nat → Rw} (h : OwR w b0 A c n R) {row : Option Nat} (hg : w.grownBy w' row) (hk : Kp b0 w w') (hne : ∀ a, A = some a → row ≠ some a.block) : OwR w' b0 A c n R := by
  obtain ⟨V, h1, h2⟩ := h
  refine ⟨V, fun k hk2 => (h1 k hk2).kp hk, World.ownsRow.kept h2 hg ?_⟩
  cases A with
  | none => exact .inl rfl
  | some a => exact .inr fun e => hne a rfl e.symm
theorem MatX.ne (h : MatX w b0 o co n i A c len M) (hi : i < n) {a : Addr} (ha : A = some a) : a.block ≠ o := by
  obtain ⟨_, cur, h1⟩ := (h.own hi).blockA ha
  obtain ⟨_, cur', h2⟩ := h.mg.block
  intro e
  rw [e, h2] at h1
  injection h1 with h1
  injection h1 with _ h1 _
  exact absurd h1 (by decide)
theorem MatG.below (h : MatG w b0 o co n len M) (hb : Below w.heap.size w w') : MatG w' b0 o co n len M := by
  obtain ⟨A, c, Ar, cp, e1, e2, hd, h1, h2⟩ := h
  exact ⟨A, c, Ar, cp, e1, e2, hd, own_below h1 hb, fun j hj => (h2 j hj).below hb⟩
theorem MatX.below (h : MatX w b0 o co n i A c len M) (hb : Below w.heap.size w w') : MatX w' b0 o co n i A c len M := by
  obtain ⟨Ar, cp, e1, e2, hd, h1, h2⟩ := h
  exact ⟨Ar, cp, e1, e2, hd, own_below h1 hb, fun j hj => (h2 j hj).below hb⟩
theorem below_of_row {b0 : Nat} {row : Option Nat} (h : w.grownBy w' row) (hr : ∀ k, row = some k → b0 ≤ k) (hs : b0 ≤ w.heap.size) : Below b0 w w' :=
  ⟨h.os, h.tape, h.output, h.size, fun k hk => h.block k (by omega) (fun e => by have := hr k e.symm; omega)⟩
theorem Kp.of_grown {row : Option Nat} (h : w.grownBy w' row) (hr : ∀ k, row = some k → b0 ≤ k ∧ ∃ cur, w.heap[k]? = some (.cells cur 56 (0, 0))) : Kp b0 w w' := by
  cases row with
  | none => exact ⟨h.os, h.tape, h.output, h.size, fun k hk _ => h.block k hk (by simp)⟩
  | some g =>
    obtain ⟨h1, cur, h2⟩ := hr g rfl
    exact Kp.grown h h1 h2 (by decide)
/-- row i has been written or grown, and its head is stored -/
theorem MatX.put (h : MatX w b0 o co n i A c len M) (hi : i < n) (hg : w.grownBy w1 (Value.slice A (len i) c).ownBlock) (hnew : OwR w1 b0 (some ⟨g', 0, none⟩) c' k' (can f')) (hfr : (Value.slice A (len i) c).ownBlock = some g' ∨ w.heap.size ≤ g') (hs : b0 ≤ w.heap.size) :
    MatG (w1.setCell ⟨o, i, none⟩ (.slice (some ⟨g', 0, none⟩) k' c')) b0 o co n (upd len i k') (upd M i f') ∧ Kp b0 w (w1.setCell ⟨o, i, none⟩ (.slice (some ⟨g', 0, none⟩) k' c')) ∧ Below b0 w (w1.setCell ⟨o, i, none⟩ (.slice (some ⟨g', 0, none⟩) k' c')) := by
  have hX := h
  obtain ⟨Ar, cp, rfl, rfl, hd, h1, h2⟩ := h
  have hrow : ∀ k, (Value.slice (Ar i) (len i) (cp i)).ownBlock = some k → b0 ≤ k ∧ ∃ cur, w.heap[k]? = some (.cells cur 56 (0, 0)) := by
    intro k hk
    cases e : Ar i with
    | none => rw [e] at hk; cases hk
    | some a =>
      rw [e] at hk
      injection hk with hk
      subst hk
      exact (h2 i hi).blockA e
  have hk1 : Kp b0 w w1 := Kp.of_grown hg hrow
  have hb1 : Below b0 w w1 := below_of_row hg (fun k hk => (hrow k hk).1) hs
  have hne : ∀ k, (Value.slice (Ar i) (len i) (cp i)).ownBlock = some k → k ≠ o := by
    intro k hk
    cases e : Ar i with
    | none => rw [e] at hk; cases hk
    | some a =>
      rw [e] at hk
      injection hk with hk
      subst hk
      exact hX.ne hi e
  have hout := World.ownsRow.kept h1 hg (.inr fun e => hne o e.symm rfl)
  obtain ⟨hst, hgs⟩ := World.ownsRow.stored hout i (.slice (some ⟨g', 0, none⟩) k' c')
  rw [rowsC_set] at hst
  obtain ⟨hbo, curo, hho⟩ := hX.mg.block
  have hho1 : w1.heap[o]? = some (.cells curo 23 (0, 0)) := by
    rw [hg.block o hX.mg.lt (fun e => hne o e.symm rfl)]; exact hho
  have hk2 : Kp b0 w1 (w1.setCell ⟨o, i, none⟩ (.slice (some ⟨g', 0, none⟩) k' c')) := Kp.grown hgs hbo hho1 (by decide)
  have hgo : g' ≠ o := by
    rcases hfr with hfr | hfr
    · exact hne g' hfr
    · have := hX.mg.lt; omega
  refine ⟨⟨_, _, upd Ar i (some ⟨g', 0, none⟩), upd cp i c', rfl, rfl, ?_, hst, ?_⟩, hk1.trans hk2, ?_⟩
  · intro j j' hj hj' hjj a a' ha ha'
    by_cases e : j = i
    · subst e
      rw [upd_same] at ha
      rw [upd_ne _ _ (Ne.symm hjj)] at ha'
      injection ha with ha
      subst ha
      rcases hfr with hfr | hfr
      · cases e2 : Ar j with
        | none => rw [e2] at hfr; cases hfr
        | some b =>
          rw [e2] at hfr
          injection hfr with hfr
          have := hd j j' hj hj' hjj b a' e2 ha'
          show g' ≠ _
          rw [← hfr]; exact this
      · obtain ⟨_, cur, h3⟩ := (h2 j' hj').blockA ha'
        have := (Array.getElem?_eq_some_iff.1 h3).1
        show g' ≠ _
        omega
    · rw [upd_ne _ _ e] at ha
      by_cases e' : j' = i
      · subst e'
        rw [upd_same] at ha'
        injection ha' with ha'
        subst ha'
        rcases hfr with hfr | hfr
        · cases e2 : Ar j' with
          | none => rw [e2] at hfr; cases hfr
          | some b =>
            rw [e2] at hfr
            injection hfr with hfr
            have := hd j j' hj hj' hjj a b ha e2
            show _ ≠ g'
            rw [← hfr]; exact this
        · obtain ⟨_, cur, h3⟩ := (h2 j hj).blockA ha
          have := (Array.getElem?_eq_some_iff.1 h3).1
          show _ ≠ g'
          omega
      · rw [upd_ne _ _ e'] at ha'
        exact hd j j' hj hj' hjj a a' ha ha'
  · intro j hj
    by_cases e : j = i
    · subst e
      rw [upd_same, upd_same, upd_same, upd_same]
      exact hnew.keep hgs hk2 hgo
    · rw [upd_ne _ _ e, upd_ne _ _ e, upd_ne _ _ e, upd_ne _ _ e]
      have h3 := (h2 j hj).keepA hg hk1 (by
        intro a ha e2
        cases e3 : Ar i with
        | none => rw [e3] at e2; cases e2
        | some b =>
          rw [e3] at e2
          injection e2 with e2
          exact hd j i hj hi e a b ha e3 e2.symm)
      refine h3.keepA hgs hk2 ?_
      intro a ha e2
      injection e2 with e2
      have : MatX w b0 o co n j (Ar j) (cp j) len M := ⟨Ar, cp, rfl, rfl, hd, h1, h2⟩
      exact this.ne hj ha e2.symm
  · refine hb1.trans (below_of_row hgs (fun k hk => ?_) (Nat.le_trans hs hb1.size))
    injection hk with hk
    omega
/-- row i has been written in its place -/
theorem MatX.same (h : MatX w b0 o co n i (some ⟨g, 0, none⟩) c len M) (hi : i < n) (hg : w.grownBy w1 (some g)) (hnew : OwR w1 b0 (some ⟨g, 0, none⟩) c (len i) (can f')) (hs : b0 ≤ w.heap.size) :
    MatX w1 b0 o co n i (some ⟨g, 0, none⟩) c len (upd M i f') ∧ Kp b0 w w1 ∧ Below b0 w w1 := by
  have hX := h
  obtain ⟨Ar, cp, e1, e2, hd, h1, h2⟩ := h
  have hk1 : Kp b0 w w1 := (hX.own hi).kp hg
  have hne := hX.ne hi rfl
  refine ⟨⟨Ar, cp, e1, e2, hd, World.ownsRow.kept h1 hg (.inr fun e => by injection e with e; exact hne e.symm), ?_⟩, hk1, below_of_row hg (fun k hk => by injection hk with hk; have := (hX.own hi).block.1; omega) hs⟩
  intro j hj
  by_cases e : j = i
  · subst e
    rw [upd_same, e1, e2]; exact hnew
  · rw [upd_ne _ _ e]
    refine (h2 j hj).keepA hg hk1 ?_
    intro a ha e3
    injection e3 with e3
    exact hd j i hj hi e a _ ha e1 e3.symm
end
end Go.Proofs.YtoiopnmphbnjaaaGreatDoor
namespace Go.Proofs.YtoiopnmphbnjaaaGreatDoor
open Go.RowKit
set_option linter.unusedSimpArgs false
set_option linter.unusedVariables false
set_option maxRecDepth 20000
/-! ## make with room -/
theorem own_cut {w : World} {b0 g c m k : Nat} {ty : TypeId} {l : List Value} (h : w.ownsRow b0 ty 1 (.slice (some ⟨g, 0, none⟩) m c) m l) (hk : k ≤ m) : w.ownsRow b0 ty 1 (.slice (some ⟨g, 0, none⟩) k c) k (l.take k) := by
  obtain ⟨h1, h2⟩ := h
  refine ⟨by rw [List.length_take, h1]; omega, ?_⟩
  rcases h2 with ⟨e, _⟩ | ⟨g', cap, cur, e, hb, hg, hmc, hcm, hsz, ht⟩
  · injection e with e; cases e
  · injection e with e1 e2 e3
    subst e3
    refine .inr ⟨g', c, cur, by rw [e1], hb, hg, by omega, hcm, hsz, ?_⟩
    rw [← ht, List.take_take, Nat.mul_one, Nat.mul_one, Nat.min_eq_left (by omega)]
theorem wpList_makeVc {w : World} {ops : Array Oper} {rest : List Oper} {o : Oper} {a : Act} {Q : Exit → Act → World → Prop}
    (hg : o.guard = none) (l c : Operand) (hop : o.op = Op.makeSlice 30 l c)
    (b0 n m : Nat) (L C : Int) (hl : a.eval l = .int .i64 L) (hc : a.eval c = .int .i64 C) (hL : L = (n : Int)) (hC : C = (m : Int)) (hnm : n ≤ m) (hm : m ≤ 1000000) (hb : b0 ≤ w.heap.size)
    (h : ∀ w', OwVb w' b0 (some ⟨w.heap.size, 0, none⟩) m n (fun _ => false) → Below w.heap.size w w' → wpList Tryz.prog ops Q rest (a.put o.dst (.slice (some ⟨w.heap.size, 0, none⟩) n m)) w') : wpList Tryz.prog ops Q (o :: rest) a w := by
  obtain ⟨i, hi, hz, hs, hby⟩ := info_parts infoV
  refine wpList_plain hg fun K hK' => ?_
  subst hL
  subst hC
  have hr := run_make (P := Tryz.prog) w 30 4 i (.bool false) Tryz.underlying30 hi hz .i64 .i64 (n : Int) (m : Int) (by omega) (by omega) (by rw [hby]; omega) (by omega)
  simp only [Int.toNat_natCast] at hr
  have h0 := World.ownsRow_lit w (e := 4) (size := 1) (madeCells (Value.cells (.bool false)) (m * i.size)) m hb (by unfold maxLen; omega) (by rw [hs]; exact size_madeCells _ _)
  have h1 := own_cut h0 hnm
  have e : (madeCells (Value.cells (.bool false)) (m * i.size)).toList.take n = bvl n (fun _ => false) := by
    rw [hs, Nat.mul_one]
    show (madeCells #[Value.bool false] m).toList.take n = _
    rw [toList_madeCells_one]
    apply List.ext_getElem (by simp [bvl]; omega)
    intro j h1 h2
    simp [bvl]
  rw [e] at h1
  unfold Oper.wp
  simp [execOp, hop, hl, hc, hr, Result.andThen]
  exact hK' _ _ (h _ h1 ((Below.refl _ _).grown (World.grownBy_alloc w _ none) (Nat.le_refl _) (by intro k hk; cases hk)))
end Go.Proofs.YtoiopnmphbnjaaaGreatDoor
