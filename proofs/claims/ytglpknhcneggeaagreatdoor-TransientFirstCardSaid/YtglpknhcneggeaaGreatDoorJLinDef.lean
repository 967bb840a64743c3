/- Contracts of functions and lemmas, used by the proofs of the given statements. No condition beyond those that each lemma names. -/
import Derived.Test.YtglpknhcneggeaaGreatDoorJRatK
import Derived.Test.YtglpknhcneggeaaGreatDoorLinP
namespace Go.Proofs.YtglpknhcneggeaaGreatDoor
open Go.RowKit
set_option linter.unusedSimpArgs false
set_option linter.unusedVariables false
/-! ## a load that the walk of a region does not take first (its cell is stored later in the same statement) -/
def ldLater (t : TypeId) (x : Operand) : Op := .load t x
@[go_sem] theorem ldLater_eq (t : TypeId) (x : Operand) : ldLater t x = .load t x := rfl
theorem ld_later (t : TypeId) (x : Operand) : Op.load t x = ldLater t x := rfl
/-! ## fractions whose words nobody writes: in blocks ahead of b0, or in blocks of words -/
def WB (w : World) (b0 b : Nat) : Prop := b < b0 ∨ ∃ cur fz, w.heap[b]? = some (.cells cur 74 fz)
def BlkIn (S : Nat → Prop) (A : Option Addr) (n : Nat) : Prop := 0 < n → ∀ a, A = some a → S a.block
/-- the world goes on, and what WB names stays -/
structure Kp (b0 : Nat) (w w' : World) : Prop where
  os : w'.os = w.os
  tape : w'.tape = w.tape
  output : w'.output = w.output
  size : w.heap.size ≤ w'.heap.size
  block : ∀ k, k < w.heap.size → WB w b0 k → w'.heap[k]? = w.heap[k]?
section
variable {b0 b1 : Nat} {w w' w1 : World}
theorem WB.kp {b : Nat} (h : WB w b0 b) (hb : b < w.heap.size) (k : Kp b0 w w') : WB w' b0 b := by
  rcases h with h | ⟨cur, fz, h⟩
  · exact .inl h
  · exact .inr ⟨cur, fz, by rw [k.block b hb (.inr ⟨cur, fz, h⟩)]; exact h⟩
theorem Kp.refl (b0 : Nat) (w : World) : Kp b0 w w := ⟨rfl, rfl, rfl, Nat.le_refl _, fun _ _ _ => rfl⟩
theorem Kp.trans (h : Kp b0 w w1) (k : Kp b0 w1 w') : Kp b0 w w' :=
  ⟨k.os.trans h.os, k.tape.trans h.tape, k.output.trans h.output, Nat.le_trans h.size k.size, fun i hi hw =>
    (k.block i (Nat.lt_of_lt_of_le hi h.size) (hw.kp hi h)).trans (h.block i hi hw)⟩
theorem Kp.of_below (h : Below w.heap.size w w') : Kp b0 w w' := ⟨h.os, h.tape, h.output, h.size, fun k hk _ => h.block k hk⟩
theorem Kp.alloc (h : Kp b0 w w') (o : Obj) : Kp b0 w (w'.alloc o) := h.trans (Kp.of_below ((Below.refl _ _).alloc (Nat.le_refl _) o))
theorem Kp.drew (h : Kp b0 w w') : Kp b0 w w'.drew := ⟨h.os, h.tape, h.output, h.size, h.block⟩
theorem Kp.drewN (h : Kp b0 w w') (n : Nat) : Kp b0 w (w'.drewN n) := ⟨h.os, h.tape, h.output, h.size, h.block⟩
/-- a row of the call's own is written, which is no row of words -/
theorem Kp.grown {g : Nat} {cur : Array Value} {e : TypeId} {fz : Nat × Nat} (h : w.grownBy w' (some g)) (hg : b0 ≤ g) (hc : w.heap[g]? = some (.cells cur e fz)) (he : e ≠ 74) : Kp b0 w w' := by
  refine ⟨h.os, h.tape, h.output, h.size, fun k hk hw => h.block k hk ?_⟩
  intro e1
  injection e1 with e1
  subst e1
  rcases hw with hw | ⟨cur', fz', hw⟩
  · omega
  · rw [hc] at hw
    injection hw with hw
    injection hw with _ hw _
    exact he hw
theorem Kp.cell {b o : Nat} (k : Kp b0 w w') (hb : b < w.heap.size) (h : WB w b0 b) : w'.cell? ⟨b, o, none⟩ = w.cell? ⟨b, o, none⟩ :=
  World.cell?_of_block (a := ⟨b, o, none⟩) (k.block b hb h)
end
theorem RdW.kp {b0 : Nat} {w w' : World} {A : Option Addr} {l : List Nat} (h : RdW w w.heap.size A l) (hs : BlkIn (WB w b0) A l.length) (k : Kp b0 w w') : RdW w' w'.heap.size A l := by
  refine ⟨h.1, fun hn => ?_⟩
  obtain ⟨b, off, rfl, hb, hc⟩ := h.2 hn
  exact ⟨b, off, rfl, Nat.lt_of_lt_of_le hb k.size, fun j u hu => (k.cell hb (hs hn _ rfl)).trans (hc j u hu)⟩
theorem BlkIn.kp {b0 : Nat} {w w' : World} {A : Option Addr} {l : List Nat} (h : RdW w w.heap.size A l) (hs : BlkIn (WB w b0) A l.length) (k : Kp b0 w w') : BlkIn (WB w' b0) A l.length := by
  intro hn a ha
  obtain ⟨b, off, e, hb, _⟩ := h.2 hn
  rw [e] at ha
  injection ha with ha
  subst ha
  exact (hs hn _ e).kp hb k
/-- a fraction in memory, for good -/
def RdS (w : World) (b0 : Nat) (v : Value) (r : Rw) : Prop :=
  ∃ A c B d, v = rv r.1 A r.2.1.length c B r.2.2.length d ∧ r.2.1.length ≤ c ∧ r.2.2.length ≤ d ∧ okR r ∧ RdW w w.heap.size A r.2.1 ∧ RdW w w.heap.size B r.2.2 ∧ BlkIn (WB w b0) A r.2.1.length ∧ BlkIn (WB w b0) B r.2.2.length
section
variable {b0 L M : Nat} {w w' : World} {v : Value} {r : Rw} {q : Rat}
theorem RdS.rdr (h : RdS w b0 v r) : RdR w v r := by
  obtain ⟨A, c, B, d, h1, h2, h3, h4, h5, h6, _, _⟩ := h
  exact ⟨A, c, B, d, h1, h2, h3, h4, h5, h6⟩
theorem RdS.kp (h : RdS w b0 v r) (k : Kp b0 w w') : RdS w' b0 v r := by
  obtain ⟨A, c, B, d, h1, h2, h3, h4, h5, h6, h7, h8⟩ := h
  exact ⟨A, c, B, d, h1, h2, h3, h4, h5.kp h7 k, h6.kp h8 k, BlkIn.kp h5 h7 k, BlkIn.kp h6 h8 k⟩
theorem RdS.form (h : RdS w b0 v r) : ∃ s A n c B m d, v = rv s A n c B m d := h.rdr.form
theorem RdS.rdq (h : RdS w b0 v r) (h1 : r.2.1.length ≤ L) (h2 : r.2.2.length ≤ L) : RdQ w L v (valR r) := ⟨r, h.rdr, rfl, h1, h2⟩
theorem RdS.canQ (h : RdS w b0 v (canR q)) (hs : Sz L q) : RdQ w L v q := ⟨_, h.rdr, valR_canR q, (Sz_canR hs).1, (Sz_canR hs).2⟩
theorem RdS.base (h : RdS w b0 v r) {b1 : Nat} (hb : b0 ≤ b1) : RdS w b1 v r := by
  obtain ⟨A, c, B, d, h1, h2, h3, h4, h5, h6, h7, h8⟩ := h
  have hw : ∀ b, WB w b0 b → WB w b1 b := fun b h => h.imp (fun h => by omega) id
  exact ⟨A, c, B, d, h1, h2, h3, h4, h5, h6, fun hn a ha => hw _ (h7 hn a ha), fun hn a ha => hw _ (h8 hn a ha)⟩
/-- what came in -/
theorem RdS.of_in (h : RdR w v r) : RdS w w.heap.size v r := by
  obtain ⟨A, c, B, d, h1, h2, h3, h4, h5, h6⟩ := h
  refine ⟨A, c, B, d, h1, h2, h3, h4, h5, h6, ?_, ?_⟩
  · intro hn a ha
    obtain ⟨b, off, e, hb, _⟩ := h5.2 hn
    rw [e] at ha; injection ha with ha; subst ha
    exact .inl hb
  · intro hn a ha
    obtain ⟨b, off, e, hb, _⟩ := h6.2 hn
    rw [e] at ha; injection ha with ha; subst ha
    exact .inl hb
theorem OwW.blk {base c : Nat} {A : Option Addr} {l : List Nat} (h : OwW w base A c l) : BlkIn (WB w b0) A l.length := by
  intro hn a ha
  subst ha
  rcases h.2 with ⟨h1, h2⟩ | ⟨g, cap, cur, hv, _, hg, _⟩
  · omega
  · injection hv with hv
    injection hv with hv
    subst hv
    exact .inr ⟨cur, (0, 0), hg⟩
theorem OwQ.rs {base : Nat} (h : OwQ w base v q) : RdS w b0 v (canR q) := by
  obtain ⟨A, c, B, d, h1, h2, h3⟩ := h
  exact ⟨A, c, B, d, h1, h2.cap, h3.cap, canR_ok q, h2.rd, h3.rd, h2.blk, h3.blk⟩
end
/-! ## rows of fractions -/
def c3 : Value → List Value
  | .agg xs => xs.toList
  | _ => []
def isR (v : Value) : Prop := ∃ s A n c B m d, v = rv s A n c B m d
theorem isR.len {v : Value} (h : isR v) : (c3 v).length = 3 := by obtain ⟨s, A, n, c, B, m, d, rfl⟩ := h; rfl
def cellsV (n : Nat) (V : Nat → Value) : List Value := (List.range n).flatMap fun k => c3 (V k)
theorem upd_same {α : Type} (f : Nat → α) (k : Nat) (x : α) : upd f k x k = x := by simp [upd]
theorem upd_ne {α : Type} (f : Nat → α) {k j : Nat} (x : α) (h : j ≠ k) : upd f k x j = f j := by simp [upd, h]
theorem cellsV_zero (V : Nat → Value) : cellsV 0 V = [] := rfl
theorem cellsV_succ (n : Nat) (V : Nat → Value) : cellsV (n + 1) V = cellsV n V ++ c3 (V n) := by simp [cellsV, List.range_succ]
theorem cellsV_congr {n : Nat} {V U : Nat → Value} (h : ∀ k, k < n → V k = U k) : cellsV n V = cellsV n U := by
  induction n with
  | zero => rfl
  | succ n ih => rw [cellsV_succ, cellsV_succ, ih fun k hk => h k (by omega), h n (by omega)]
theorem cellsV_length {n : Nat} {V : Nat → Value} (h : ∀ k, k < n → isR (V k)) : (cellsV n V).length = n * 3 := by
  induction n with
  | zero => rfl
  | succ n ih => rw [cellsV_succ, List.length_append, ih fun k hk => h k (by omega), (h n (by omega)).len]; omega
theorem cellsV_one {V : Nat → Value} {n : Nat} (h : ∀ k, k < n → isR (V k)) : ∀ u ∈ cellsV n V, u.oneCell' = true := by
  intro u hu
  simp only [cellsV, List.mem_flatMap, List.mem_range] at hu
  obtain ⟨k, hk, hu⟩ := hu
  obtain ⟨s, A, a, c, B, b, d, e⟩ := h k hk
  rw [e] at hu
  simp [c3] at hu
  rcases hu with rfl | rfl | rfl <;> rfl
theorem cellsV_get {n : Nat} {V : Nat → Value} (h : ∀ k, k < n → isR (V k)) {k : Nat} (hk : k < n) {s : Bool} {A : Option Addr} {a c : Nat} {B : Option Addr} {b d : Nat} (e : V k = rv s A a c B b d) :
    (cellsV n V)[k * 3]? = some (.bool s) ∧ (cellsV n V)[k * 3 + 1]? = some (.slice A a c) ∧ (cellsV n V)[k * 3 + 2]? = some (.slice B b d) := by
  induction n with
  | zero => omega
  | succ n ih =>
    have hl := cellsV_length fun k (hk : k < n) => h k (by omega)
    rw [cellsV_succ]
    rcases Nat.lt_or_ge k n with h1 | h1
    · have := ih (fun k hk => h k (by omega)) h1
      rw [List.getElem?_append_left (by omega), List.getElem?_append_left (by omega), List.getElem?_append_left (by omega)]
      exact this
    · have : k = n := by omega
      subst this
      rw [List.getElem?_append_right (by omega), List.getElem?_append_right (by omega), List.getElem?_append_right (by omega), hl, e]
      simp [c3]
theorem cellsV_set {n : Nat} {V : Nat → Value} (h : ∀ k, k < n → isR (V k)) {k : Nat} (hk : k < n) (x0 x1 x2 : Value) :
    (((cellsV n V).set (k * 3) x0).set (k * 3 + 1) x1).set (k * 3 + 2) x2 = cellsV n (upd V k (.agg #[x0, x1, x2])) := by
  induction n with
  | zero => omega
  | succ n ih =>
    have hl := cellsV_length fun k (hk : k < n) => h k (by omega)
    rw [cellsV_succ, cellsV_succ]
    rcases Nat.lt_or_ge k n with h1 | h1
    · rw [← ih (fun k hk => h k (by omega)) h1, upd_ne _ _ (by omega)]
      rw [List.set_append_left _ _ (by omega), List.set_append_left _ _ (by rw [List.length_set]; omega), List.set_append_left _ _ (by rw [List.length_set, List.length_set]; omega)]
    · have : k = n := by omega
      subst this
      rw [upd_same, cellsV_congr (U := V) fun j hj => upd_ne _ _ (by omega)]
      obtain ⟨s, A, a, c, B, b, d, e⟩ := h k hk
      rw [e]
      rw [List.set_append_right _ _ (by omega), List.set_append_right _ _ (by omega), List.set_append_right _ _ (by omega), hl]
      have e1 : k * 3 + 1 - k * 3 = 1 := by omega
      have e2 : k * 3 + 2 - k * 3 = 2 := by omega
      rw [Nat.sub_self, e1, e2]
      rfl
theorem ratInfo : (Tryz.prog.info? 28).map (fun i => (i.zero, i.size, i.bytes)) = some (some (rv false none 0 0 none 0 0), 3, 56) := by kernel_rfl
end Go.Proofs.YtglpknhcneggeaaGreatDoor
namespace Go.Proofs.YtglpknhcneggeaaGreatDoor
open Go.RowKit
set_option linter.unusedSimpArgs false
set_option linter.unusedVariables false
/-! ## slices of fractions in memory -/
/-- a slice that reads as the fractions R -/
def RowA (w : World) (b0 : Nat) (A : Option Addr) (n : Nat) (R : Nat → Rw) : Prop :=
  ∃ V, (∀ k, k < n → RdS w b0 (V k) (R k)) ∧ Rds w w.heap.size 3 A n (cellsV n V)
/-- .. in a row that a call has made -/
def OwR (w : World) (b0 : Nat) (A : Option Addr) (c n : Nat) (R : Nat → Rw) : Prop :=
  ∃ V, (∀ k, k < n → RdS w b0 (V k) (R k)) ∧ w.ownsRow b0 28 3 (.slice A n c) n (cellsV n V)
section
variable {b0 n c g : Nat} {w w' : World} {A : Option Addr} {R U : Nat → Rw}
theorem RdS.isR {v : Value} {r : Rw} (h : RdS w b0 v r) : isR v := h.form
theorem RowA.congr (h : RowA w b0 A n R) (e : ∀ k, k < n → R k = U k) : RowA w b0 A n U := by
  obtain ⟨V, h1, h2⟩ := h
  exact ⟨V, fun k hk => e k hk ▸ h1 k hk, h2⟩
theorem OwR.congr (h : OwR w b0 A c n R) (e : ∀ k, k < n → R k = U k) : OwR w b0 A c n U := by
  obtain ⟨V, h1, h2⟩ := h
  exact ⟨V, fun k hk => e k hk ▸ h1 k hk, h2⟩
theorem RowA.nil_ (w : World) (b0 : Nat) (A : Option Addr) (R : Nat → Rw) : RowA w b0 A 0 R := ⟨fun _ => .nilIface, fun _ h => by omega, Rds.nil_ w _ 3 A⟩
theorem OwR.nil_ (w : World) (b0 : Nat) (R : Nat → Rw) : OwR w b0 none 0 0 R := ⟨fun _ => .nilIface, fun _ h => by omega, own_nil w b0 _ 3⟩
theorem OwR.ra (h : OwR w b0 A c n R) : RowA w b0 A n R := by
  obtain ⟨V, h1, h2⟩ := h
  exact ⟨V, h1, Rds.of_own h2⟩
theorem OwR.cap (h : OwR w b0 A c n R) : n ≤ c := by
  obtain ⟨V, h1, h2⟩ := h
  obtain ⟨A', c', e, h2⟩ := own_form h2
  injection e with _ _ e3
  omega
theorem RowA.below (h : RowA w b0 A n R) (hb : Below w.heap.size w w') : RowA w' b0 A n R := by
  obtain ⟨V, h1, h2⟩ := h
  exact ⟨V, fun k hk => (h1 k hk).kp (Kp.of_below hb), Rds.more (Rds.below h2 hb) hb.size⟩
theorem OwR.below (h : OwR w b0 A c n R) (hb : Below w.heap.size w w') : OwR w' b0 A c n R := by
  obtain ⟨V, h1, h2⟩ := h
  exact ⟨V, fun k hk => (h1 k hk).kp (Kp.of_below hb), own_below h2 hb⟩
/-- element k -/
theorem RowA.at_ (h : RowA w b0 A n R) {k : Nat} (hk : k < n) : ∃ b off s A1 n1 c1 B1 m1 d1, A = some ⟨b, off, none⟩ ∧ b < w.heap.size ∧ w.cell? ⟨b, off + k * 3, none⟩ = some (.bool s) ∧ w.cell? ⟨b, off + k * 3 + 1, none⟩ = some (.slice A1 n1 c1) ∧ w.cell? ⟨b, off + k * 3 + 2, none⟩ = some (.slice B1 m1 d1) ∧ RdS w b0 (rv s A1 n1 c1 B1 m1 d1) (R k) := by
  obtain ⟨V, h1, h2⟩ := h
  obtain ⟨b, off, e, hb, hc⟩ := h2.2 (by omega)
  have hv := h1 k hk
  obtain ⟨s, A1, n1, c1, B1, m1, d1, ev⟩ := hv.form
  rw [ev] at hv
  obtain ⟨g0, g1, g2⟩ := cellsV_get (fun k hk => (h1 k hk).isR) hk ev
  exact ⟨b, off, s, A1, n1, c1, B1, m1, d1, e, hb, hc _ _ g0, by rw [Nat.add_assoc]; exact hc _ _ g1, by rw [Nat.add_assoc]; exact hc _ _ g2, hv⟩
theorem OwR.at_ (h : OwR w b0 (some ⟨g, 0, none⟩) c n R) {k : Nat} (hk : k < n) : ∃ s A1 n1 c1 B1 m1 d1, w.cell? ⟨g, k * 3, none⟩ = some (.bool s) ∧ w.cell? ⟨g, k * 3 + 1, none⟩ = some (.slice A1 n1 c1) ∧ w.cell? ⟨g, k * 3 + 2, none⟩ = some (.slice B1 m1 d1) ∧ RdS w b0 (rv s A1 n1 c1 B1 m1 d1) (R k) := by
  obtain ⟨b, off, s, A1, n1, c1, B1, m1, d1, e, hb, h0, h1, h2, h3⟩ := h.ra.at_ hk
  injection e with e
  injection e with e1 e2
  subst e1 e2
  rw [Nat.zero_add] at h0 h1 h2
  exact ⟨s, A1, n1, c1, B1, m1, d1, h0, h1, h2, h3⟩
theorem OwR.block (h : OwR w b0 (some ⟨g, 0, none⟩) c n R) : b0 ≤ g ∧ ∃ cur, w.heap[g]? = some (.cells cur 28 (0, 0)) := by
  obtain ⟨V, h1, h2⟩ := h
  rcases h2.2 with ⟨h, _⟩ | ⟨g', cap, cur, e, hb, hg, _⟩
  · cases h
  · injection e with e
    injection e with e
    injection e with e
    subst e
    exact ⟨hb, cur, hg⟩
theorem OwR.lt (h : OwR w b0 (some ⟨g, 0, none⟩) c n R) : g < w.heap.size := by
  obtain ⟨_, cur, h⟩ := h.block
  exact (Array.getElem?_eq_some_iff.1 h).1
theorem OwR.frozen (h : OwR w b0 (some ⟨g, 0, none⟩) c n R) (k : Nat) : w.frozen? ⟨g, k, none⟩ = false := by
  obtain ⟨V, h1, h2⟩ := h
  exact World.ownsRow.frozenAt h2 k
theorem OwR.kp (h : OwR w b0 (some ⟨g, 0, none⟩) c n R) (hg : w.grownBy w' (some g)) : Kp b0 w w' := by
  obtain ⟨h1, cur, h2⟩ := h.block
  exact Kp.grown hg h1 h2 (by decide)
/-- another row is written -/
theorem OwR.keep (h : OwR w b0 (some ⟨g, 0, none⟩) c n R) {g' : Nat} (hg : w.grownBy w' (some g')) (hk : Kp b0 w w') (hne : g ≠ g') : OwR w' b0 (some ⟨g, 0, none⟩) c n R := by
  obtain ⟨V, h1, h2⟩ := h
  refine ⟨V, fun k hk2 => (h1 k hk2).kp hk, World.ownsRow.kept h2 hg (.inr ?_)⟩
  intro e
  injection e with e
  exact hne e
theorem grown_trans {a b d : World} {row : Option Nat} (h : a.grownBy b row) (k : b.grownBy d row) : a.grownBy d row :=
  ⟨k.os.trans h.os, k.tape.trans h.tape, k.output.trans h.output, Nat.le_trans h.size k.size, fun i hi hne => (k.block i (Nat.lt_of_lt_of_le hi h.size) hne).trans (h.block i hi hne)⟩
theorem grown_of_below {a b : World} (h : Below a.heap.size a b) (row : Option Nat) : a.grownBy b row := ⟨h.os, h.tape, h.output, h.size, fun k hk _ => h.block k hk⟩
theorem grown_at {a b : World} {g : Nat} (h : a.grownBy b (some g)) {k : Nat} (o : Nat) (hk : k < a.heap.size) (hne : k ≠ g) : b.cell? ⟨k, o, none⟩ = a.cell? ⟨k, o, none⟩ :=
  World.cell?_of_block (a := ⟨k, o, none⟩) (h.block k hk (by intro e; injection e with e; exact hne e))
/-- element k is stored -/
theorem OwR.set (h : OwR w b0 (some ⟨g, 0, none⟩) c n R) {k : Nat} (hk : k < n) {s : Bool} {A1 : Option Addr} {n1 c1 : Nat} {B1 : Option Addr} {m1 d1 : Nat} {r : Rw} (hr : RdS w b0 (rv s A1 n1 c1 B1 m1 d1) r) :
    OwR (((w.setCell ⟨g, k * 3, none⟩ (.bool s)).setCell ⟨g, k * 3 + 1, none⟩ (.slice A1 n1 c1)).setCell ⟨g, k * 3 + 2, none⟩ (.slice B1 m1 d1)) b0 (some ⟨g, 0, none⟩) c n (upd R k r) ∧
    w.grownBy (((w.setCell ⟨g, k * 3, none⟩ (.bool s)).setCell ⟨g, k * 3 + 1, none⟩ (.slice A1 n1 c1)).setCell ⟨g, k * 3 + 2, none⟩ (.slice B1 m1 d1)) (some g) := by
  have h9 := h
  obtain ⟨V, h1, h2⟩ := h
  obtain ⟨s0, t0⟩ := World.ownsRow.stored h2 (k * 3) (.bool s)
  obtain ⟨s1, t1⟩ := World.ownsRow.stored s0 (k * 3 + 1) (.slice A1 n1 c1)
  obtain ⟨s2, t2⟩ := World.ownsRow.stored s1 (k * 3 + 2) (.slice B1 m1 d1)
  have hgr := grown_trans (grown_trans t0 t1) t2
  have hkp := h9.kp hgr
  rw [cellsV_set (fun k hk => (h1 k hk).isR) hk] at s2
  refine ⟨⟨upd V k (rv s A1 n1 c1 B1 m1 d1), fun j hj => ?_, s2⟩, hgr⟩
  by_cases e : j = k
  · subst e; rw [upd_same, upd_same]; exact hr.kp hkp
  · rw [upd_ne _ _ e, upd_ne _ _ e]; exact (h1 j hj).kp hkp
end
end Go.Proofs.YtglpknhcneggeaaGreatDoor
