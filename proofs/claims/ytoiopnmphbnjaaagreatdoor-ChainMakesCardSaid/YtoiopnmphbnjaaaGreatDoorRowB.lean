/- Contracts and lemmas for the given statements. Conditions: those alone that each names. -/
import Derived.Test.YtoiopnmphbnjaaaGreatDoorJBase
import Derived.Deep.AppendLies
import Derived.OwnWalk
import Derived.Laws.OwnMore
namespace Go.Proofs.YtoiopnmphbnjaaaGreatDoor
open Go.RowKit
set_option linter.unusedSimpArgs false
set_option linter.unusedVariables false
set_option maxRecDepth 20000
/-! ## rows of bools and of ints, as functions: read, and of the call's own -/
def bvl (n : Nat) (f : Nat → Bool) : List Value := (List.range n).map fun j => .bool (f j)
def ivl (n : Nat) (f : Nat → Int) : List Value := (List.range n).map fun j => .int .i64 (f j)
theorem bvl_get {n k : Nat} {f : Nat → Bool} (h : k < n) : (bvl n f)[k]? = some (.bool (f k)) := by simp [bvl, h]
theorem ivl_get {n k : Nat} {f : Nat → Int} (h : k < n) : (ivl n f)[k]? = some (.int .i64 (f k)) := by simp [ivl, h]
theorem bvl_succ (n : Nat) (f : Nat → Bool) : bvl (n + 1) f = bvl n f ++ [.bool (f n)] := by simp [bvl, List.range_succ]
theorem ivl_succ (n : Nat) (f : Nat → Int) : ivl (n + 1) f = ivl n f ++ [.int .i64 (f n)] := by simp [ivl, List.range_succ]
theorem bvl_congr {n : Nat} {f g : Nat → Bool} (e : ∀ j, j < n → f j = g j) : bvl n f = bvl n g := by
 unfold bvl
 refine List.map_congr_left fun j hj => ?_
 rw [e j (List.mem_range.1 hj)]
theorem ivl_congr {n : Nat} {f g : Nat → Int} (e : ∀ j, j < n → f j = g j) : ivl n f = ivl n g := by
 unfold ivl
 refine List.map_congr_left fun j hj => ?_
 rw [e j (List.mem_range.1 hj)]
theorem bvl_set {n : Nat} {f : Nat → Bool} {k : Nat} {b : Bool} : (bvl n f).set k (.bool b) = bvl n (fun j => if j = k then b else f j) := by
 apply List.ext_getElem?
 intro j
 by_cases h : j = k
 · subst h
   by_cases hn : j < n
   · rw [List.getElem?_set_self (by simp [bvl]; exact hn)]; simp [bvl, hn]
   · rw [List.getElem?_eq_none (by simp [bvl]; omega), List.getElem?_eq_none (by simp [bvl]; omega)]
 · rw [List.getElem?_set_ne (Ne.symm h)]
   by_cases hn : j < n
   · simp [bvl, hn, h]
   · rw [List.getElem?_eq_none (by simp [bvl]; omega), List.getElem?_eq_none (by simp [bvl]; omega)]
/-! ### what is read -/
def RdV (w : World) (A : Option Addr) (n : Nat) (f : Nat → Bool) : Prop := Rds w w.heap.size 1 A n (bvl n f)
def RdJ (w : World) (A : Option Addr) (n : Nat) (f : Nat → Int) : Prop := Rds w w.heap.size 1 A n (ivl n f)
section
variable {w w' : World} {A : Option Addr} {n k B : Nat} {f g : Nat → Bool} {p q : Nat → Int}
theorem RdV.nil_ (w : World) (A : Option Addr) (f : Nat → Bool) : RdV w A 0 f := Rds.nil_ _ _ _ _
theorem RdV.below (h : RdV w A n f) (hb : Below w.heap.size w w') : RdV w' A n f := Rds.more (Rds.below h hb) hb.size
theorem RdJ.below (h : RdJ w A n p) (hb : Below w.heap.size w w') : RdJ w' A n p := Rds.more (Rds.below h hb) hb.size
theorem RdJ.congr (h : RdJ w A n p) (e : ∀ j, j < n → p j = q j) : RdJ w A n q := by unfold RdJ at h ⊢; rw [← ivl_congr e]; exact h
theorem RdV.later (h : RdV w A n f) (hb : Below w.heap.size w w') (hk : k < n) : ∃ b off, A = some ⟨b, off, none⟩ ∧ b < w.heap.size ∧ w'.cell? ⟨b, off + k, none⟩ = some (.bool (f k)) := by
 obtain ⟨b, off, e, hlt, hc⟩ := h.2 (by omega)
 exact ⟨b, off, e, hlt, (hb.cell (p := ⟨b, off + k, none⟩) hlt).trans (hc k _ (bvl_get hk))⟩
theorem RdJ.later (h : RdJ w A n p) (hb : Below w.heap.size w w') (hk : k < n) : ∃ b off, A = some ⟨b, off, none⟩ ∧ b < w.heap.size ∧ w'.cell? ⟨b, off + k, none⟩ = some (.int .i64 (p k)) := by
 obtain ⟨b, off, e, hlt, hc⟩ := h.2 (by omega)
 exact ⟨b, off, e, hlt, (hb.cell (p := ⟨b, off + k, none⟩) hlt).trans (hc k _ (ivl_get hk))⟩
theorem RdV.at_ (h : RdV w A n f) (hk : k < n) : ∃ b off, A = some ⟨b, off, none⟩ ∧ b < w.heap.size ∧ w.cell? ⟨b, off + k, none⟩ = some (.bool (f k)) := h.later (Below.refl _ _) hk
end
/-! ### rows of the call's own -/
def OwVb (w : World) (base : Nat) (A : Option Addr) (c n : Nat) (f : Nat → Bool) : Prop := w.ownsRow base 4 1 (.slice A n c) n (bvl n f)
def OwJ (w : World) (base : Nat) (A : Option Addr) (c n : Nat) (f : Nat → Int) : Prop := w.ownsRow base 3 1 (.slice A n c) n (ivl n f)
theorem infoV : (Tryz.prog.info? 4).map (fun i => (i.zero, i.size, i.bytes)) = some (some (.bool false), 1, 1) := by kernel_rfl
theorem infoJ : (Tryz.prog.info? 3).map (fun i => (i.zero, i.size, i.bytes)) = some (some (.int .i64 0), 1, 8) := by kernel_rfl
section
variable {w w' w1 : World} {base b0 g c n k : Nat} {A : Option Addr} {f f' : Nat → Bool} {p q : Nat → Int}
theorem OwVb.nil_ (w : World) (base : Nat) (f : Nat → Bool) : OwVb w base none 0 0 f := own_nil w base _ 1
theorem OwJ.nil_ (w : World) (base : Nat) (f : Nat → Int) : OwJ w base none 0 0 f := own_nil w base _ 1
theorem OwVb.below (h : OwVb w base A c n f) (hb : Below w.heap.size w w1) : OwVb w1 base A c n f := own_below h hb
theorem OwJ.below (h : OwJ w base A c n p) (hb : Below w.heap.size w w1) : OwJ w1 base A c n p := own_below h hb
theorem OwVb.base_ (h : OwVb w base A c n f) (hb : b0 ≤ base) : OwVb w b0 A c n f := own_base h hb
theorem OwJ.base_ (h : OwJ w base A c n p) (hb : b0 ≤ base) : OwJ w b0 A c n p := own_base h hb
theorem OwVb.congr (h : OwVb w base A c n f) (e : ∀ j, j < n → f j = f' j) : OwVb w base A c n f' := by unfold OwVb at h ⊢; rw [← bvl_congr e]; exact h
theorem OwJ.congr (h : OwJ w base A c n p) (e : ∀ j, j < n → p j = q j) : OwJ w base A c n q := by unfold OwJ at h ⊢; rw [← ivl_congr e]; exact h
theorem OwVb.rd (h : OwVb w base A c n f) : RdV w A n f := Rds.of_own h
theorem OwJ.rd (h : OwJ w base A c n p) : RdJ w A n p := Rds.of_own h
theorem OwVb.at_ (h : OwVb w base (some ⟨g, 0, none⟩) c n f) (hk : k < n) : w.cell? ⟨g, k, none⟩ = some (.bool (f k)) := by
 rw [World.ownsRow.cellAt h k (by omega)]
 exact bvl_get hk
theorem OwJ.at_ (h : OwJ w base (some ⟨g, 0, none⟩) c n p) (hk : k < n) : w.cell? ⟨g, k, none⟩ = some (.int .i64 (p k)) := by
 rw [World.ownsRow.cellAt h k (by omega)]
 exact ivl_get hk
theorem OwVb.frozen (h : OwVb w base (some ⟨g, 0, none⟩) c n f) (k : Nat) : w.frozen? ⟨g, k, none⟩ = false := World.ownsRow.frozenAt h k
theorem OwVb.set (h : OwVb w base (some ⟨g, 0, none⟩) c n f) (k : Nat) (b : Bool) : OwVb (w.setCell ⟨g, k, none⟩ (.bool b)) base (some ⟨g, 0, none⟩) c n (fun j => if j = k then b else f j) ∧ w.grownBy (w.setCell ⟨g, k, none⟩ (.bool b)) (some g) := by
 obtain ⟨s1, g1⟩ := World.ownsRow.stored h k (.bool b)
 rw [bvl_set] at s1
 exact ⟨s1, g1⟩
theorem OwVb.form (h : OwVb w base A c n f) (hn : 0 < n) : ∃ g, A = some ⟨g, 0, none⟩ ∧ base ≤ g ∧ g < w.heap.size := by
 obtain ⟨g, cap, e, h1, h2⟩ := World.ownsRow.form h hn
 injection e with e
 exact ⟨g, e, h1, h2⟩
theorem OwJ.form (h : OwJ w base A c n p) (hn : 0 < n) : ∃ g, A = some ⟨g, 0, none⟩ ∧ base ≤ g ∧ g < w.heap.size := by
 obtain ⟨g, cap, e, h1, h2⟩ := World.ownsRow.form h hn
 injection e with e
 exact ⟨g, e, h1, h2⟩
/-- append -/
theorem wpList_appV {ops : Array Oper} {rest : List Oper} {o : Oper} {a : Act} {Q : Exit → Act → World → Prop} (hgd : o.guard = none) (s x : Operand)
   (ho : o.op = .call { callee := .builtin .append, args := #[s, x], argTypes := #[30, 30] })
   (b0 : Nat) (A : Option Addr) (c n : Nat) (f : Nat → Bool) (hs : a.eval s = .slice A n c) (hown : OwVb w b0 A c n f)
   (B : Nat) (v : Bool) (hx : a.eval x = .slice (some ⟨B, 0, none⟩) 1 1) (hc0 : w.cell? ⟨B, 0, none⟩ = some (.bool v))
   (hn : n ≤ 1000000) (hbase : b0 ≤ w.heap.size)
   (h : ∀ g cap w', OwVb w' b0 (some ⟨g, 0, none⟩) cap (n + 1) (fun j => if j = n then v else f j) → Below b0 w w' → g < w'.heap.size → wpList Tryz.prog ops Q rest (a.put o.dst (.slice (some ⟨g, 0, none⟩) (n + 1) cap)) w') : wpList Tryz.prog ops Q (o :: rest) a w := by
 obtain ⟨i0, hi0, hz0, hz1, hz2⟩ := info_parts infoV
 refine wpList_append_lies _ hgd s x 30 ho b0 4 i0 _ 1 1 Tryz.underlying30 hi0 hz0 hz1 hz2 rfl (by omega) _ n _ hs hown ⟨B, 0, none⟩ 1 1 [.bool v] hx rfl ?_ ?_ (by omega) (by unfold maxLen; omega) (by omega) hbase w.heap.size rfl ?_
 · intro j u hu
   rw [addr_add, Nat.zero_add]
   match j, hu with
   | 0, hu => simp at hu; subst hu; exact hc0
   | j + 1, hu => simp at hu
 · intro u hu
   simp at hu
   subst hu; rfl
 · intro g cap w' h1 h2 h3 h4
   refine h g cap w' ?_ ((Below.refl _ _).grown h2 hbase fun k hk => (World.ownsRow.lt hown k hk).1) h4
   unfold OwVb
   rw [bvl_succ, bvl_congr (g := f) (fun j hj => by rw [if_neg (by omega)])]
   simpa using h1
theorem wpList_appJ {ops : Array Oper} {rest : List Oper} {o : Oper} {a : Act} {Q : Exit → Act → World → Prop} (hgd : o.guard = none) (s x : Operand)
   (ho : o.op = .call { callee := .builtin .append, args := #[s, x], argTypes := #[43, 43] })
   (b0 : Nat) (A : Option Addr) (c n : Nat) (f : Nat → Int) (hs : a.eval s = .slice A n c) (hown : OwJ w b0 A c n f)
   (B : Nat) (v : Int) (hx : a.eval x = .slice (some ⟨B, 0, none⟩) 1 1) (hc0 : w.cell? ⟨B, 0, none⟩ = some (.int .i64 v))
   (hn : n ≤ 1000000) (hbase : b0 ≤ w.heap.size)
   (h : ∀ g cap w', OwJ w' b0 (some ⟨g, 0, none⟩) cap (n + 1) (fun j => if j = n then v else f j) → Below b0 w w' → g < w'.heap.size → wpList Tryz.prog ops Q rest (a.put o.dst (.slice (some ⟨g, 0, none⟩) (n + 1) cap)) w') : wpList Tryz.prog ops Q (o :: rest) a w := by
 obtain ⟨i0, hi0, hz0, hz1, hz2⟩ := info_parts infoJ
 refine wpList_append_lies _ hgd s x 43 ho b0 3 i0 _ 1 8 Tryz.underlying43 hi0 hz0 hz1 hz2 rfl (by omega) _ n _ hs hown ⟨B, 0, none⟩ 1 1 [.int .i64 v] hx rfl ?_ ?_ (by omega) (by unfold maxLen; omega) (by omega) hbase w.heap.size rfl ?_
 · intro j u hu
   rw [addr_add, Nat.zero_add]
   match j, hu with
   | 0, hu => simp at hu; subst hu; exact hc0
   | j + 1, hu => simp at hu
 · intro u hu
   simp at hu
   subst hu; rfl
 · intro g cap w' h1 h2 h3 h4
   refine h g cap w' ?_ ((Below.refl _ _).grown h2 hbase fun k hk => (World.ownsRow.lt hown k hk).1) h4
   unfold OwJ
   rw [ivl_succ, ivl_congr (g := f) (fun j hj => by rw [if_neg (by omega)])]
   simpa using h1
end
end Go.Proofs.YtoiopnmphbnjaaaGreatDoor
