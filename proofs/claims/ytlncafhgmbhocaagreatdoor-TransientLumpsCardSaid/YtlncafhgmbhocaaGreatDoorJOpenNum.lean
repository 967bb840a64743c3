/- Contracts of functions and lemmas, used by the proofs of the given statements. No condition beyond those that each lemma names. -/
import Derived.Test.YtlncafhgmbhocaaGreatDoorJLinO
import Derived.OpenShut
import Derived.Test.YtlncafhgmbhocaaGreatDoorLinMk
import Derived.Test.YtlncafhgmbhocaaGreatDoorJLinRow
import Derived.Test.YtlncafhgmbhocaaGreatDoorJBase
namespace Go.Proofs.YtlncafhgmbhocaaGreatDoor
set_option linter.unusedSimpArgs false
open Go.ChangeShapes Go.WideShapes Go.ChangeAt Go.RowKit Go.Joins Go.Deep
set_option maxRecDepth 100000
set_option linter.unusedVariables false
/-! ## an int or a byte out of what a statement is handed -/
section
variable {H : Type} {enc : TypeId × Value → H} {W : World} {base : Nat}
theorem byte_of {x : Int} (w : (Lit.int .u8 x).wf = true) : ∃ p : Nat, x = (p : Int) ∧ p < 256 := by
  have h : 0 ≤ x ∧ x ≤ 255 := by simpa [Lit.wf, IntKind.min, IntKind.max, IntKind.signed, IntKind.bits] using w
  exact ⟨x.toNat, by omega, by omega⟩
theorem open_u8E {v : Value} {d : DataW H} {p : List MemPlace} (hv : Value.okWide Tryz.prog W .any base 5 v) (h : DataW.Trod enc Tryz.prog W 0 (fun _ => true) true 5 v d p) :
    ∃ x : Nat, v = .int .u8 (x : Int) ∧ x < 256 := by
  obtain ⟨x, rfl, _, _, w⟩ := open_int Tryz.underlying5 hv h
  obtain ⟨a, rfl, ha⟩ := byte_of w
  exact ⟨a, rfl, ha⟩
end
end Go.Proofs.YtlncafhgmbhocaaGreatDoor
namespace Go.Proofs.YtlncafhgmbhocaaGreatDoor
open Go.RowKit
set_option linter.unusedSimpArgs false
set_option linter.unusedVariables false
/-! ## what is neither a row of fractions nor of rows stays -/
/-! ## lists of ints of a call's own -/
section
variable {w w1 w' : World} {base base' c b0 o co n i j g : Nat} {A : Option Addr} {l : List Nat} {len : Nat → Nat} {M : Nat → Nat → Rat}
/-! ## two rows change places -/
theorem MatX.head (h : MatX w b0 o co n i A c len M) (hi : i < n) (hl : 0 < len i) : ∃ g, A = some ⟨g, 0, none⟩ := (h.own hi).form hl
end
end Go.Proofs.YtlncafhgmbhocaaGreatDoor
namespace Go.Proofs.YtlncafhgmbhocaaGreatDoor
open Go.RowKit
set_option linter.unusedSimpArgs false
set_option linter.unusedVariables false
set_option maxRecDepth 20000
attribute [local irreducible] nv wp win plainB validR valR canR
/-! ## appending to rows and to rows of rows -/
theorem wpList_appR1 {w : World} {ops : Array Oper} {rest : List Oper} {o : Oper} {a : Act} {Q : Exit → Act → World → Prop} (hgd : o.guard = none) (s x : Operand)
    (ho : o.op = .call { callee := .builtin .append, args := #[s, x], argTypes := #[41, 41] })
    (b0 : Nat) (A : Option Addr) (c n : Nat) (R : Nat → Rw) (hs : a.eval s = .slice A n c) (hown : OwR w b0 A c n R)
    (B : Nat) (sg : Bool) (A1 : Option Addr) (n1 c1 : Nat) (B1 : Option Addr) (m1 d1 : Nat) (r : Rw) (hx : a.eval x = .slice (some ⟨B, 0, none⟩) 1 1)
    (hc0 : w.cell? ⟨B, 0, none⟩ = some (.bool sg)) (hc1 : w.cell? ⟨B, 1, none⟩ = some (.slice A1 n1 c1)) (hc2 : w.cell? ⟨B, 2, none⟩ = some (.slice B1 m1 d1)) (hr : RdS w b0 (rv sg A1 n1 c1 B1 m1 d1) r)
    (hn : n ≤ 1000000) (hbase : b0 ≤ w.heap.size)
    (h : ∀ A' cap w', OwR w' b0 A' cap (n + 1) (upd R n r) → w.grownBy w' (Value.slice A n c).ownBlock → (∀ q, (Value.slice A' (n + 1) cap).ownBlock = some q → (Value.slice A n c).ownBlock = some q ∨ w.heap.size ≤ q) → wpList Tryz.prog ops Q rest (a.put o.dst (.slice A' (n + 1) cap)) w') : wpList Tryz.prog ops Q (o :: rest) a w := by
  obtain ⟨i0, hi0, hz0, hz1, hz2⟩ := info_parts ratInfo
  have hown0 := hown
  obtain ⟨V, hV, hown⟩ := hown
  refine wpList_append_lies _ hgd s x 41 ho b0 44 i0 _ 3 56 Tryz.underlying41 hi0 hz0 hz1 hz2 rfl (by omega) _ n _ hs hown ⟨B, 0, none⟩ 1 1 (c3 (rv sg A1 n1 c1 B1 m1 d1)) hx rfl ?_ ?_ (by omega) (by unfold maxLen; omega) (by omega) hbase w.heap.size rfl ?_
  · intro j u hu
    rw [addr_add, Nat.zero_add]
    match j, hu with
    | 0, hu => simp [c3] at hu; subst hu; exact hc0
    | 1, hu => simp [c3] at hu; subst hu; exact hc1
    | 2, hu => simp [c3] at hu; subst hu; exact hc2
    | j + 3, hu => simp [c3] at hu
  · intro u hu
    simp [c3] at hu
    rcases hu with rfl | rfl | rfl <;> rfl
  · intro g cap w' h1 h2 h3 h4
    refine h _ cap w' (OwR.snoc (A := A) (c := c) hV hr (Kp.of_grown h2 ?_) h1) h2 (fun q hq => by injection hq with hq; subst hq; exact h3.imp id fun e => by show w.heap.size ≤ g; omega)
    intro k hk
    cases e : A with
    | none => rw [e] at hk; cases hk
    | some a =>
      rw [e] at hk
      injection hk with hk
      subst hk
      exact hown0.blockA e
/-- a matrix of the call's own, its rows anywhere among the call's own blocks -/
def MatO (w : World) (b : Nat) (A : Option Addr) (c n : Nat) (len : Nat → Nat) (M : Nat → Nat → Rat) : Prop :=
  ∃ Ar cp, w.ownsRow b 41 1 (.slice A n c) n (rowsC n Ar len cp) ∧ ∀ j, j < n → OwR w b (Ar j) (cp j) (len j) (can (M j))
theorem MatO.below {w w' : World} {b c n : Nat} {A : Option Addr} {len : Nat → Nat} {M : Nat → Nat → Rat} (h : MatO w b A c n len M) (hb : Below w.heap.size w w') : MatO w' b A c n len M := by
  obtain ⟨Ar, cp, h1, h2⟩ := h
  exact ⟨Ar, cp, own_below h1 hb, fun j hj => (h2 j hj).below hb⟩
theorem Rds.blk {w : World} {s n : Nat} {A : Option Addr} {xs : List Value} (h : Rds w w.heap.size s A n xs) (hn : 0 < n) : BlkIn (fun b => b < w.heap.size) A n := by
  intro _ a ha
  obtain ⟨b, off, e, hb, _⟩ := h.2 hn
  rw [e] at ha
  injection ha with ha
  subst ha
  exact hb
theorem OwR.ri {w : World} {b c n : Nat} {A : Option Addr} {R : Nat → Rw} (h : OwR w b A c n R) (hb : b ≤ w.heap.size) : RowI w w.heap.size A n R := by
  obtain ⟨V, h1, h2⟩ := h.ra
  refine ⟨V, fun k hk => (h1 k hk).base hb, h2, fun hn => ?_⟩
  exact Rds.blk h2 hn hn
theorem MatO.mi {w : World} {b c n : Nat} {A : Option Addr} {len : Nat → Nat} {M : Nat → Nat → Rat} (h : MatO w b A c n len M) (hb : b ≤ w.heap.size) : MatI w w.heap.size A n len (fun i => can (M i)) := by
  obtain ⟨Ar, cp, h1, h2⟩ := h
  have h3 := Rds.of_own h1
  exact ⟨Ar, cp, h3, fun hn => Rds.blk h3 hn hn, fun i hi => ⟨(h2 i hi).cap, (h2 i hi).ri hb⟩⟩
theorem wpList_appMk {w : World} {ops : Array Oper} {rest : List Oper} {o : Oper} {a : Act} {Q : Exit → Act → World → Prop} (hgd : o.guard = none) (s x : Operand)
    (ho : o.op = .call { callee := .builtin .append, args := #[s, x], argTypes := #[73, 73] })
    (b : Nat) (A : Option Addr) (c n : Nat) (len : Nat → Nat) (M : Nat → Nat → Rat) (hs : a.eval s = .slice A n c) (hown : MatO w b A c n len M)
    (B : Nat) (hx : a.eval x = .slice (some ⟨B, 0, none⟩) 1 1) (A1 : Option Addr) (c1 : Nat) (hc0 : w.cell? ⟨B, 0, none⟩ = some (.slice A1 (len n) c1)) (hr : OwR w b A1 c1 (len n) (can (M n))) 
    (hn : n ≤ 1000000) (hbase : b ≤ w.heap.size)
    (h : ∀ A' c' w', MatO w' b A' c' (n + 1) len M → Below b w w' → (∀ (A0 : Option Addr) (c0 k : Nat) (R : Nat → Rw), OwR w b A0 c0 k R → OwR w' b A0 c0 k R) → wpList Tryz.prog ops Q rest (a.put o.dst (.slice A' (n + 1) c')) w') : wpList Tryz.prog ops Q (o :: rest) a w := by
  obtain ⟨Ar, cp, h1, h2⟩ := hown
  have hrd : Rds w w.heap.size 1 (some ⟨B, 0, none⟩) 1 [.slice A1 (len n) c1] := ⟨rfl, fun _ => ⟨B, 0, rfl, lt_of_cell hc0, fun j u hu => by
    rw [Nat.zero_add]
    match j, hu with
    | 0, hu => simp at hu; subst hu; exact hc0
    | j + 1, hu => simp at hu⟩⟩
  have hblk : ∀ k, (Value.slice A n c).ownBlock = some k → ∃ cur, w.heap[k]? = some (.cells cur 41 (0, 0)) := by
    intro k hk
    rcases h1.2 with ⟨h, _⟩ | ⟨g', cap, cur, e, hb, hg, _⟩
    · rw [h] at hk; cases hk
    · rw [e] at hk; injection hk with hk; subst hk; exact ⟨cur, hg⟩
  refine wpList_app hgd s x 73 ho b 41 _ 1 24 Tryz.underlying73 sliceInfo rfl (by decide) A c n _ hs h1 w.heap.size _ 1 1 _ hx hrd (by intro u hu; simp at hu; subst hu; rfl) (by unfold maxLen; omega) (by omega) hbase ?_
  intro A' c' w' g1 g2 g3 g4
  have hkp : Kp b w w' := by
    have : ∀ k, b ≤ k → True := fun _ _ => trivial
    cases hrow : (Value.slice A n c).ownBlock with
    | none => rw [hrow] at g3; exact Kp.of_below ⟨g3.os, g3.tape, g3.output, g3.size, fun k hk => g3.block k hk (by simp)⟩
    | some g =>
      rw [hrow] at g3
      obtain ⟨cur, hc⟩ := hblk g hrow
      refine Kp.grown g3 ?_ hc (by decide)
      exact (World.ownsRow.lt h1 g hrow).1
  have hkeep : ∀ {A0 : Option Addr} {c0 k : Nat} {R : Nat → Rw}, OwR w b A0 c0 k R → OwR w' b A0 c0 k R := fun {A0 c0 k R} h0 => h0.keepA g3 hkp fun a0 ha0 e => by
    obtain ⟨_, cur1, e1⟩ := h0.blockA ha0
    obtain ⟨cur2, e2⟩ := hblk _ e
    rw [e1] at e2
    injection e2 with e2
    injection e2 with _ e2
    exact absurd e2 (by decide)
  refine h A' c' w' ⟨upd Ar n A1, upd cp n c1, ?_, fun j hj => ?_⟩ g2 (fun A0 c0 k R h0 => hkeep h0)
  · have e : rowsC (n + 1) (upd Ar n A1) len (upd cp n c1) = rowsC n Ar len cp ++ [.slice A1 (len n) c1] := by
      unfold rowsC
      rw [List.range_succ, List.map_append]
      congr 1
      · exact List.map_congr_left fun i hi => by rw [upd_ne _ _ (by have := List.mem_range.1 hi; omega), upd_ne _ _ (by have := List.mem_range.1 hi; omega)]
      · simp [upd_same]
    rw [e]
    exact g1
  · by_cases e : j = n
    · subst e; rw [upd_same, upd_same]; exact hkeep hr
    · rw [upd_ne _ _ e, upd_ne _ _ e]; exact hkeep (h2 j (by omega))
end Go.Proofs.YtlncafhgmbhocaaGreatDoor
namespace Go.Proofs.YtlncafhgmbhocaaGreatDoor
set_option linter.unusedSimpArgs false
open Go.RowKit
set_option linter.unusedVariables false
/-! ## rows whose words lie in blocks of words -/
/-- base 0: the row's words lie in blocks of words; far: the row's block is a new one -/
def RetW (base n : Nat) (f : Nat → Rat) (e : Ending) (w : World) : Prop := ∃ A c, e = .returned (.slice A n c) ∧ OwR w 0 A c n (can f) ∧ ∀ q, (Value.slice A n c).ownBlock = some q → base ≤ q
theorem OwR.raise {w : World} {b c n : Nat} {A : Option Addr} {R : Nat → Rw} (h : OwR w 0 A c n R) (hf : ∀ q, (Value.slice A n c).ownBlock = some q → b ≤ q) : OwR w b A c n R := by
  obtain ⟨V, h1, h2⟩ := h
  refine ⟨V, fun k hk => (h1 k hk).base (Nat.zero_le _), h2.1, ?_⟩
  rcases h2.2 with h3 | ⟨g, cap, cur, e, hb, rest⟩
  · exact .inl h3
  · exact .inr ⟨g, cap, cur, e, hf g (by rw [e]; rfl), rest⟩
end Go.Proofs.YtlncafhgmbhocaaGreatDoor
