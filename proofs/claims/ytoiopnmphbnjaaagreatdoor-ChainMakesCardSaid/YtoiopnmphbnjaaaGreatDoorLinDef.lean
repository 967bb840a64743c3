/- Contracts and lemmas for the given statements. Conditions: those alone that each names. -/
import Derived.Test.YtoiopnmphbnjaaaGreatDoorJRatK
import Derived.Test.YtoiopnmphbnjaaaGreatDoorJBase
namespace Go.Proofs.YtoiopnmphbnjaaaGreatDoor
open Go.RowKit
set_option linter.unusedSimpArgs false
set_option linter.unusedVariables false
/-! ## a load that the walk of a region does not take first (its cell is stored later in the same statement) -/
def ldLater (t : TypeId) (x : Operand) : Op := .load t x
@[go_sem] theorem ldLater_eq (t : TypeId) (x : Operand) : ldLater t x = .load t x := rfl
/-! ## fractions whose words nobody writes: in blocks ahead of b0, or in blocks of words -/
def WB (w : World) (b0 b : Nat) : Prop := b < b0 ∨ ∃ cur fz, w.heap[b]? = some (.cells cur 157 fz)
def BlkIn (S : Nat → Prop) (A : Option Addr) (n : Nat) : Prop := 0 < n → ∀ a, A = some a → S a.block
/-- the world goes on, and what WB names stays -/
structure Kp (b0 : Nat) (w w' : World) : Prop where
 os : w'.os = w.os
 tape : w'.tape = w.tape
 output : w'.output = w.output
 size : w.heap.size ≤ w'.heap.size
 block : ∀ k, k < w.heap.size → WB w b0 k → w'.heap[k]? = w.heap[k]?
section
variable {b0 b1 : Nat} {w w' w1 : World}
theorem WB.kp {b : Nat} (h : WB w b0 b) (hb : b < w.heap.size) (k : Kp b0 w w') : WB w' b0 b := by
 rcases h with h | ⟨cur, fz, h⟩
 · exact .inl h
 · exact .inr ⟨cur, fz, by rw [k.block b hb (.inr ⟨cur, fz, h⟩)]; exact h⟩
theorem Kp.refl (b0 : Nat) (w : World) : Kp b0 w w := ⟨rfl, rfl, rfl, Nat.le_refl _, fun _ _ _ => rfl⟩
theorem Kp.trans (h : Kp b0 w w1) (k : Kp b0 w1 w') : Kp b0 w w' :=
 ⟨k.os.trans h.os, k.tape.trans h.tape, k.output.trans h.output, Nat.le_trans h.size k.size, fun i hi hw =>
   (k.block i (Nat.lt_of_lt_of_le hi h.size) (hw.kp hi h)).trans (h.block i hi hw)⟩
theorem Kp.of_below (h : Below w.heap.size w w') : Kp b0 w w' := ⟨h.os, h.tape, h.output, h.size, fun k hk _ => h.block k hk⟩
theorem Kp.alloc (h : Kp b0 w w') (o : Obj) : Kp b0 w (w'.alloc o) := h.trans (Kp.of_below ((Below.refl _ _).alloc (Nat.le_refl _) o))
theorem Kp.drew (h : Kp b0 w w') : Kp b0 w w'.drew := ⟨h.os, h.tape, h.output, h.size, h.block⟩
/-- a row of the call's own is written, which is no row of words -/
theorem Kp.grown {g : Nat} {cur : Array Value} {e : TypeId} {fz : Nat × Nat} (h : w.grownBy w' (some g)) (hg : b0 ≤ g) (hc : w.heap[g]? = some (.cells cur e fz)) (he : e ≠ 157) : Kp b0 w w' := by
 refine ⟨h.os, h.tape, h.output, h.size, fun k hk hw => h.block k hk ?_⟩
 intro e1
 injection e1 with e1
 subst e1
 rcases hw with hw | ⟨cur', fz', hw⟩
 · omega
 · rw [hc] at hw
   injection hw with hw
   injection hw with _ hw _
   exact he hw
theorem Kp.cell {b o : Nat} (k : Kp b0 w w') (hb : b < w.heap.size) (h : WB w b0 b) : w'.cell? ⟨b, o, none⟩ = w.cell? ⟨b, o, none⟩ :=
 World.cell?_of_block (a := ⟨b, o, none⟩) (k.block b hb h)
end
theorem RdW.kp {b0 : Nat} {w w' : World} {A : Option Addr} {l : List Nat} (h : RdW w w.heap.size A l) (hs : BlkIn (WB w b0) A l.length) (k : Kp b0 w w') : RdW w' w'.heap.size A l := by
 refine ⟨h.1, fun hn => ?_⟩
 obtain ⟨b, off, rfl, hb, hc⟩ := h.2 hn
 exact ⟨b, off, rfl, Nat.lt_of_lt_of_le hb k.size, fun j u hu => (k.cell hb (hs hn _ rfl)).trans (hc j u hu)⟩
theorem BlkIn.kp {b0 : Nat} {w w' : World} {A : Option Addr} {l : List Nat} (h : RdW w w.heap.size A l) (hs : BlkIn (WB w b0) A l.length) (k : Kp b0 w w') : BlkIn (WB w' b0) A l.length := by
 intro hn a ha
 obtain ⟨b, off, e, hb, _⟩ := h.2 hn
 rw [e] at ha
 injection ha with ha
 subst ha
 exact (hs hn _ e).kp hb k
/-- a fraction in memory, for good -/
def RdS (w : World) (b0 : Nat) (v : Value) (r : Rw) : Prop :=
 ∃ A c B d, v = rv r.1 A r.2.1.length c B r.2.2.length d ∧ r.2.1.length ≤ c ∧ r.2.2.length ≤ d ∧ okR r ∧ RdW w w.heap.size A r.2.1 ∧ RdW w w.heap.size B r.2.2 ∧ BlkIn (WB w b0) A r.2.1.length ∧ BlkIn (WB w b0) B r.2.2.length
section
variable {b0 L M : Nat} {w w' : World} {v : Value} {r : Rw} {q : Rat}
theorem RdS.rdr (h : RdS w b0 v r) : RdR w v r := by
 obtain ⟨A, c, B, d, h1, h2, h3, h4, h5, h6, _, _⟩ := h
 exact ⟨A, c, B, d, h1, h2, h3, h4, h5, h6⟩
theorem RdS.kp (h : RdS w b0 v r) (k : Kp b0 w w') : RdS w' b0 v r := by
 obtain ⟨A, c, B, d, h1, h2, h3, h4, h5, h6, h7, h8⟩ := h
 exact ⟨A, c, B, d, h1, h2, h3, h4, h5.kp h7 k, h6.kp h8 k, BlkIn.kp h5 h7 k, BlkIn.kp h6 h8 k⟩
theorem RdS.form (h : RdS w b0 v r) : ∃ s A n c B m d, v = rv s A n c B m d := h.rdr.form
theorem RdS.rdq (h : RdS w b0 v r) (h1 : r.2.1.length ≤ L) (h2 : r.2.2.length ≤ L) : RdQ w L v (valR r) := ⟨r, h.rdr, rfl, h1, h2⟩
theorem RdS.canQ (h : RdS w b0 v (canR q)) (hs : Sz L q) : RdQ w L v q := ⟨_, h.rdr, valR_canR q, (Sz_canR hs).1, (Sz_canR hs).2⟩
theorem RdS.base (h : RdS w b0 v r) {b1 : Nat} (hb : b0 ≤ b1) : RdS w b1 v r := by
 obtain ⟨A, c, B, d, h1, h2, h3, h4, h5, h6, h7, h8⟩ := h
 have hw : ∀ b, WB w b0 b → WB w b1 b := fun b h => h.imp (fun h => by omega) id
 exact ⟨A, c, B, d, h1, h2, h3, h4, h5, h6, fun hn a ha => hw _ (h7 hn a ha), fun hn a ha => hw _ (h8 hn a ha)⟩
/-- what came in -/
theorem RdS.of_in (h : RdR w v r) : RdS w w.heap.size v r := by
 obtain ⟨A, c, B, d, h1, h2, h3, h4, h5, h6⟩ := h
 refine ⟨A, c, B, d, h1, h2, h3, h4, h5, h6, ?_, ?_⟩
 · intro hn a ha
   obtain ⟨b, off, e, hb, _⟩ := h5.2 hn
   rw [e] at ha; injection ha with ha; subst ha
   exact .inl hb
 · intro hn a ha
   obtain ⟨b, off, e, hb, _⟩ := h6.2 hn
   rw [e] at ha; injection ha with ha; subst ha
   exact .inl hb
theorem OwW.blk {base c : Nat} {A : Option Addr} {l : List Nat} (h : OwW w base A c l) : BlkIn (WB w b0) A l.length := by
 intro hn a ha
 subst ha
 rcases h.2 with ⟨h1, h2⟩ | ⟨g, cap, cur, hv, _, hg, _⟩
 · omega
 · injection hv with hv
   injection hv with hv
   subst hv
   exact .inr ⟨cur, (0, 0), hg⟩
theorem OwQ.rs {base : Nat} (h : OwQ w base v q) : RdS w b0 v (canR q) := by
 obtain ⟨A, c, B, d, h1, h2, h3⟩ := h
 exact ⟨A, c, B, d, h1, h2.cap, h3.cap, canR_ok q, h2.rd, h3.rd, h2.blk, h3.blk⟩
end
/-! ## rows of fractions -/
def c3 : Value → List Value
 | .agg xs => xs.toList
 | _ => []
def isR (v : Value) : Prop := ∃ s A n c B m d, v = rv s A n c B m d
theorem isR.len {v : Value} (h : isR v) : (c3 v).length = 3 := by obtain ⟨s, A, n, c, B, m, d, rfl⟩ := h; rfl
def cellsV (n : Nat) (V : Nat → Value) : List Value := (List.range n).flatMap fun k => c3 (V k)
theorem upd_same {α : Type} (f : Nat → α) (k : Nat) (x : α) : upd f k x k = x := by simp [upd]
theorem upd_ne {α : Type} (f : Nat → α) {k j : Nat} (x : α) (h : j ≠ k) : upd f k x j = f j := by simp [upd, h]
theorem cellsV_succ (n : Nat) (V : Nat → Value) : cellsV (n + 1) V = cellsV n V ++ c3 (V n) := by simp [cellsV, List.range_succ]
theorem cellsV_congr {n : Nat} {V U : Nat → Value} (h : ∀ k, k < n → V k = U k) : cellsV n V = cellsV n U := by
 induction n with
 | zero => rfl
 | succ n ih => rw [cellsV_succ, cellsV_succ, ih fun k hk => h k (by omega), h n (by omega)]
theorem cellsV_length {n : Nat} {V : Nat → Value} (h : ∀ k, k < n → isR (V k)) : (cellsV n V).length = n * 3 := by
 induction n with
 | zero => rfl
 | succ n ih => rw [cellsV_succ, List.length_append, ih fun k hk => h k (by omega), (h n (by omega)).len]; omega
theorem cellsV_one {V : Nat → Value} {n : Nat} (h : ∀ k, k < n → isR (V k)) : ∀ u ∈ cellsV n V, u.oneCell' = true := by
 intro u hu
 simp only [cellsV, List.mem_flatMap, List.mem_range] at hu
 obtain ⟨k, hk, hu⟩ := hu
 obtain ⟨s, A, a, c, B, b, d, e⟩ := h k hk
 rw [e] at hu
 simp [c3] at hu
 rcases hu with rfl | rfl | rfl <;> rfl
theorem cellsV_get {n : Nat} {V : Nat → Value} (h : ∀ k, k < n → isR (V k)) {k : Nat} (hk : k < n) {s : Bool} {A : Option Addr} {a c : Nat} {B : Option Addr} {b d : Nat} (e : V k = rv s A a c B b d) :
   (cellsV n V)[k * 3]? = some (.bool s) ∧ (cellsV n V)[k * 3 + 1]? = some (.slice A a c) ∧ (cellsV n V)[k * 3 + 2]? = some (.slice B b d) := by
 induction n with
 | zero => omega
 | succ n ih =>
   have hl := cellsV_length fun k (hk : k < n) => h k (by omega)
   rw [cellsV_succ]
   rcases Nat.lt_or_ge k n with h1 | h1
   · have := ih (fun k hk => h k (by omega)) h1
     rw [List.getElem?_append_left (by omega), List.getElem?_append_left (by omega), List.getElem?_append_left (by omega)]
     exact this
   · have : k = n := by omega
     subst this
     rw [List.getElem?_append_right (by omega), List.getElem?_append_right (by omega), List.getElem?_append_right (by omega), hl, e]
     simp [c3]
theorem cellsV_set {n : Nat} {V : Nat → Value} (h : ∀ k, k < n → isR (V k)) {k : Nat} (hk : k < n) (x0 x1 x2 : Value) :
   (((cellsV n V).set (k * 3) x0).set (k * 3 + 1) x1).set (k * 3 + 2) x2 = cellsV n (upd V k (.agg #[x0, x1, x2])) := by
 induction n with
 | zero => omega
 | succ n ih =>
   have hl := cellsV_length fun k (hk : k < n) => h k (by omega)
   rw [cellsV_succ, cellsV_succ]
   rcases Nat.lt_or_ge k n with h1 | h1
   · rw [← ih (fun k hk => h k (by omega)) h1, upd_ne _ _ (by omega)]
     rw [List.set_append_left _ _ (by omega), List.set_append_left _ _ (by rw [List.length_set]; omega), List.set_append_left _ _ (by rw [List.length_set, List.length_set]; omega)]
   · have : k = n := by omega
     subst this
     rw [upd_same, cellsV_congr (U := V) fun j hj => upd_ne _ _ (by omega)]
     obtain ⟨s, A, a, c, B, b, d, e⟩ := h k hk
     rw [e]
     rw [List.set_append_right _ _ (by omega), List.set_append_right _ _ (by omega), List.set_append_right _ _ (by omega), hl]
     have e1 : k * 3 + 1 - k * 3 = 1 := by omega
     have e2 : k * 3 + 2 - k * 3 = 2 := by omega
     rw [Nat.sub_self, e1, e2]
     rfl
theorem ratInfo : (Tryz.prog.info? 56).map (fun i => (i.zero, i.size, i.bytes)) = some (some (rv false none 0 0 none 0 0), 3, 56) := by kernel_rfl
end Go.Proofs.YtoiopnmphbnjaaaGreatDoor
