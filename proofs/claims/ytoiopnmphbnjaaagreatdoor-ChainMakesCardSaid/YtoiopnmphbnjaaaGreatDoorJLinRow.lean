/- Contracts and lemmas for the given statements. Conditions: those alone that each names. -/
import Derived.Test.YtoiopnmphbnjaaaGreatDoorLinDef
import Derived.Deep.AppendLies
import Derived.Test.YtoiopnmphbnjaaaGreatDoorRowB
import Derived.Test.YtoiopnmphbnjaaaGreatDoorJBase
namespace Go.Proofs.YtoiopnmphbnjaaaGreatDoor
open Go.RowKit
set_option linter.unusedSimpArgs false
set_option linter.unusedVariables false
/-! ## slices of fractions in memory -/
/-- a slice that reads as the fractions R -/
def RowA (w : World) (b0 : Nat) (A : Option Addr) (n : Nat) (R : Nat → Rw) : Prop :=
 ∃ V, (∀ k, k < n → RdS w b0 (V k) (R k)) ∧ Rds w w.heap.size 3 A n (cellsV n V)
/-- .. in a row that a call has made -/
def OwR (w : World) (b0 : Nat) (A : Option Addr) (c n : Nat) (R : Nat → Rw) : Prop :=
 ∃ V, (∀ k, k < n → RdS w b0 (V k) (R k)) ∧ w.ownsRow b0 56 3 (.slice A n c) n (cellsV n V)
section
variable {b0 n c g : Nat} {w w' : World} {A : Option Addr} {R U : Nat → Rw}
theorem RdS.isR {v : Value} {r : Rw} (h : RdS w b0 v r) : isR v := h.form
theorem OwR.congr (h : OwR w b0 A c n R) (e : ∀ k, k < n → R k = U k) : OwR w b0 A c n U := by
 obtain ⟨V, h1, h2⟩ := h
 exact ⟨V, fun k hk => e k hk ▸ h1 k hk, h2⟩
theorem OwR.nil_ (w : World) (b0 : Nat) (R : Nat → Rw) : OwR w b0 none 0 0 R := ⟨fun _ => .nilIface, fun _ h => by omega, own_nil w b0 _ 3⟩
theorem OwR.ra (h : OwR w b0 A c n R) : RowA w b0 A n R := by
 obtain ⟨V, h1, h2⟩ := h
 exact ⟨V, h1, Rds.of_own h2⟩
theorem OwR.cap (h : OwR w b0 A c n R) : n ≤ c := by
 obtain ⟨V, h1, h2⟩ := h
 obtain ⟨A', c', e, h2⟩ := own_form h2
 injection e with _ _ e3
 omega
theorem RowA.below (h : RowA w b0 A n R) (hb : Below w.heap.size w w') : RowA w' b0 A n R := by
 obtain ⟨V, h1, h2⟩ := h
 exact ⟨V, fun k hk => (h1 k hk).kp (Kp.of_below hb), Rds.more (Rds.below h2 hb) hb.size⟩
theorem OwR.below (h : OwR w b0 A c n R) (hb : Below w.heap.size w w') : OwR w' b0 A c n R := by
 obtain ⟨V, h1, h2⟩ := h
 exact ⟨V, fun k hk => (h1 k hk).kp (Kp.of_below hb), own_below h2 hb⟩
/-- element k -/
theorem RowA.at_ (h : RowA w b0 A n R) {k : Nat} (hk : k < n) : ∃ b off s A1 n1 c1 B1 m1 d1, A = some ⟨b, off, none⟩ ∧ b < w.heap.size ∧ w.cell? ⟨b, off + k * 3, none⟩ = some (.bool s) ∧ w.cell? ⟨b, off + k * 3 + 1, none⟩ = some (.slice A1 n1 c1) ∧ w.cell? ⟨b, off + k * 3 + 2, none⟩ = some (.slice B1 m1 d1) ∧ RdS w b0 (rv s A1 n1 c1 B1 m1 d1) (R k) := by
 obtain ⟨V, h1, h2⟩ := h
 obtain ⟨b, off, e, hb, hc⟩ := h2.2 (by omega)
 have hv := h1 k hk
 obtain ⟨s, A1, n1, c1, B1, m1, d1, ev⟩ := hv.form
 rw [ev] at hv
 obtain ⟨g0, g1, g2⟩ := cellsV_get (fun k hk => (h1 k hk).isR) hk ev
 exact ⟨b, off, s, A1, n1, c1, B1, m1, d1, e, hb, hc _ _ g0, by rw [Nat.add_assoc]; exact hc _ _ g1, by rw [Nat.add_assoc]; exact hc _ _ g2, hv⟩
theorem OwR.at_ (h : OwR w b0 (some ⟨g, 0, none⟩) c n R) {k : Nat} (hk : k < n) : ∃ s A1 n1 c1 B1 m1 d1, w.cell? ⟨g, k * 3, none⟩ = some (.bool s) ∧ w.cell? ⟨g, k * 3 + 1, none⟩ = some (.slice A1 n1 c1) ∧ w.cell? ⟨g, k * 3 + 2, none⟩ = some (.slice B1 m1 d1) ∧ RdS w b0 (rv s A1 n1 c1 B1 m1 d1) (R k) := by
 obtain ⟨b, off, s, A1, n1, c1, B1, m1, d1, e, hb, h0, h1, h2, h3⟩ := h.ra.at_ hk
 injection e with e
 injection e with e1 e2
 subst e1 e2
 rw [Nat.zero_add] at h0 h1 h2
 exact ⟨s, A1, n1, c1, B1, m1, d1, h0, h1, h2, h3⟩
theorem OwR.block (h : OwR w b0 (some ⟨g, 0, none⟩) c n R) : b0 ≤ g ∧ ∃ cur, w.heap[g]? = some (.cells cur 56 (0, 0)) := by
 obtain ⟨V, h1, h2⟩ := h
 rcases h2.2 with ⟨h, _⟩ | ⟨g', cap, cur, e, hb, hg, _⟩
 · cases h
 · injection e with e
   injection e with e
   injection e with e
   subst e
   exact ⟨hb, cur, hg⟩
theorem OwR.frozen (h : OwR w b0 (some ⟨g, 0, none⟩) c n R) (k : Nat) : w.frozen? ⟨g, k, none⟩ = false := by
 obtain ⟨V, h1, h2⟩ := h
 exact World.ownsRow.frozenAt h2 k
theorem OwR.kp (h : OwR w b0 (some ⟨g, 0, none⟩) c n R) (hg : w.grownBy w' (some g)) : Kp b0 w w' := by
 obtain ⟨h1, cur, h2⟩ := h.block
 exact Kp.grown hg h1 h2 (by decide)
theorem grown_trans {a b d : World} {row : Option Nat} (h : a.grownBy b row) (k : b.grownBy d row) : a.grownBy d row :=
 ⟨k.os.trans h.os, k.tape.trans h.tape, k.output.trans h.output, Nat.le_trans h.size k.size, fun i hi hne => (k.block i (Nat.lt_of_lt_of_le hi h.size) hne).trans (h.block i hi hne)⟩
/-- element k is stored -/
theorem OwR.set (h : OwR w b0 (some ⟨g, 0, none⟩) c n R) {k : Nat} (hk : k < n) {s : Bool} {A1 : Option Addr} {n1 c1 : Nat} {B1 : Option Addr} {m1 d1 : Nat} {r : Rw} (hr : RdS w b0 (rv s A1 n1 c1 B1 m1 d1) r) :
   OwR (((w.setCell ⟨g, k * 3, none⟩ (.bool s)).setCell ⟨g, k * 3 + 1, none⟩ (.slice A1 n1 c1)).setCell ⟨g, k * 3 + 2, none⟩ (.slice B1 m1 d1)) b0 (some ⟨g, 0, none⟩) c n (upd R k r) ∧
   w.grownBy (((w.setCell ⟨g, k * 3, none⟩ (.bool s)).setCell ⟨g, k * 3 + 1, none⟩ (.slice A1 n1 c1)).setCell ⟨g, k * 3 + 2, none⟩ (.slice B1 m1 d1)) (some g) := by
 have h9 := h
 obtain ⟨V, h1, h2⟩ := h
 obtain ⟨s0, t0⟩ := World.ownsRow.stored h2 (k * 3) (.bool s)
 obtain ⟨s1, t1⟩ := World.ownsRow.stored s0 (k * 3 + 1) (.slice A1 n1 c1)
 obtain ⟨s2, t2⟩ := World.ownsRow.stored s1 (k * 3 + 2) (.slice B1 m1 d1)
 have hgr := grown_trans (grown_trans t0 t1) t2
 have hkp := h9.kp hgr
 rw [cellsV_set (fun k hk => (h1 k hk).isR) hk] at s2
 refine ⟨⟨upd V k (rv s A1 n1 c1 B1 m1 d1), fun j hj => ?_, s2⟩, hgr⟩
 by_cases e : j = k
 · subst e; rw [upd_same, upd_same]; exact hr.kp hkp
 · rw [upd_ne _ _ e, upd_ne _ _ e]; exact (h1 j hj).kp hkp
end
end Go.Proofs.YtoiopnmphbnjaaaGreatDoor
namespace Go.Proofs.YtoiopnmphbnjaaaGreatDoor
open Go.RowKit
set_option linter.unusedSimpArgs false
set_option linter.unusedVariables false
set_option maxRecDepth 20000
attribute [local irreducible] nv wp win plainB validR valR canR
/-! ## package linear: less -/
abbrev can (f : Nat → Rat) : Nat → Rw := fun k => canR (f k)
end Go.Proofs.YtoiopnmphbnjaaaGreatDoor
namespace Go.Proofs.YtoiopnmphbnjaaaGreatDoor
open Go.RowKit
set_option linter.unusedSimpArgs false
set_option linter.unusedVariables false
/-! ## matrices: slices of slices of fractions -/
/-- a slice of fractions that came in -/
def RowI (w : World) (b0 : Nat) (A : Option Addr) (n : Nat) (R : Nat → Rw) : Prop :=
 ∃ V, (∀ k, k < n → RdS w b0 (V k) (R k)) ∧ Rds w w.heap.size 3 A n (cellsV n V) ∧ BlkIn (fun b => b < b0) A n
theorem RowI.ra {w : World} {b0 n : Nat} {A : Option Addr} {R : Nat → Rw} (h : RowI w b0 A n R) : RowA w b0 A n R := by
 obtain ⟨V, h1, h2, _⟩ := h
 exact ⟨V, h1, h2⟩
section
variable {w w' w1 : World} {b0 o co n i c g g' k' c' : Nat} {A : Option Addr} {len : Nat → Nat} {R : Nat → Nat → Rw} {M : Nat → Nat → Rat} {f' : Nat → Rat}
theorem OwR.blockA {A : Option Addr} {a : Addr} {R : Nat → Rw} (h : OwR w b0 A c n R) (ha : A = some a) : b0 ≤ a.block ∧ ∃ cur, w.heap[a.block]? = some (.cells cur 56 (0, 0)) := by
 subst ha
 obtain ⟨V, h1, h2⟩ := h
 rcases h2.2 with ⟨h, _⟩ | ⟨g', cap, cur, e, hb, hg, _⟩
 · cases h
 · injection e with e
   injection e with e
   subst e
   exact ⟨hb, cur, hg⟩
theorem Kp.of_grown {row : Option Nat} (h : w.grownBy w' row) (hr : ∀ k, row = some k → b0 ≤ k ∧ ∃ cur, w.heap[k]? = some (.cells cur 56 (0, 0))) : Kp b0 w w' := by
 cases row with
 | none => exact ⟨h.os, h.tape, h.output, h.size, fun k hk _ => h.block k hk (by simp)⟩
 | some g =>
   obtain ⟨h1, cur, h2⟩ := hr g rfl
   exact Kp.grown h h1 h2 (by decide)
end
end Go.Proofs.YtoiopnmphbnjaaaGreatDoor
namespace Go.Proofs.YtoiopnmphbnjaaaGreatDoor
open Go.RowKit
set_option linter.unusedSimpArgs false
set_option linter.unusedVariables false
/-! ## making and growing rows and matrices -/
abbrev zr : Value := rv false none 0 0 none 0 0
theorem cellsV_zero3 (n : Nat) : (madeCells (Value.cells zr) (n * 3)).toList = cellsV n (fun _ => zr) := by
 have hz : Value.cells zr = #[.bool false, .slice none 0 0, .slice none 0 0] := rfl
 rw [hz]
 have hR : ∀ k, k < n → isR ((fun _ => zr) k) := fun k _ => ⟨false, none, 0, 0, none, 0, 0, rfl⟩
 apply List.ext_getElem?
 intro j
 by_cases hj : j < n * 3
 · obtain ⟨g0, g1, g2⟩ := cellsV_get (V := fun _ => zr) hR (show j / 3 < n by omega) (s := false) (A := none) (a := 0) (c := 0) (B := none) (b := 0) (d := 0) rfl
   have h3 : j % 3 < 3 := Nat.mod_lt _ (by omega)
   have e : j = j / 3 * 3 + j % 3 := by omega
   have lhs : (madeCells #[Value.bool false, .slice none 0 0, .slice none 0 0] (n * 3)).toList[j]? = some (#[Value.bool false, .slice none 0 0, .slice none 0 0][j % 3]!) := by
     simp [madeCells, hj]
   rw [lhs]
   rcases (show j % 3 = 0 ∨ j % 3 = 1 ∨ j % 3 = 2 by omega) with h | h | h
   · rw [h]; rw [h] at e; rw [e, Nat.add_zero, g0]; rfl
   · rw [h]; rw [h] at e; rw [e, g1]; rfl
   · rw [h]; rw [h] at e; rw [e, g2]; rfl
 · rw [List.getElem?_eq_none (by simp [size_madeCells]; omega), List.getElem?_eq_none (by rw [cellsV_length hR]; omega)]
theorem RdS.zero (w : World) (b0 : Nat) : RdS w b0 zr (canR 0) := (OwQ.zero w b0).rs
/-- out := make([]api.Rat, n) -/
theorem wpList_makeR {w : World} {ops : Array Oper} {rest : List Oper} {o : Oper} {a : Act} {Q : Exit → Act → World → Prop}
   (hg : o.guard = none) (l c : Operand) (hop : o.op = Op.makeSlice 23 l c)
   (b0 n : Nat) (L C : Int) (hl : a.eval l = .int .i64 L) (hc : a.eval c = .int .i64 C) (hL : L = (n : Int)) (hC : C = (n : Int)) (hn : n ≤ 1000000) (hb : b0 ≤ w.heap.size)
   (h : ∀ w', OwR w' b0 (some ⟨w.heap.size, 0, none⟩) n n (can fun _ => 0) → Below w.heap.size w w' → wpList Tryz.prog ops Q rest (a.put o.dst (.slice (some ⟨w.heap.size, 0, none⟩) n n)) w') : wpList Tryz.prog ops Q (o :: rest) a w := by
 obtain ⟨i, hi, hz, hs, hby⟩ := info_parts ratInfo
 refine wpList_make_full w hg l c 23 hop b0 56 i zr 3 Tryz.underlying23 hi hz hs .i64 .i64 L C n hl hc hL hC (by rw [hby]; omega) (by unfold maxLen; omega) hb ?_
 intro w' h1 h2
 rw [cellsV_zero3] at h1
 exact h w' ⟨_, fun k _ => RdS.zero w' b0, h1⟩ ((Below.refl _ _).grown h2 (Nat.le_refl _) (by intro k hk; cases hk))
/-- a row of fractions, and one more -/
theorem OwR.snoc {w w1 : World} {b0 n c' g' : Nat} {A : Option Addr} {c : Nat} {R : Nat → Rw} {V : Nat → Value} {v : Value} {r : Rw} (hV : ∀ k, k < n → RdS w b0 (V k) (R k)) (hr : RdS w b0 v r) (hk : Kp b0 w w1)
   (h : w1.ownsRow b0 56 3 (.slice (some ⟨g', 0, none⟩) (n + 1) c') (n + 1) (cellsV n V ++ c3 v)) : OwR w1 b0 (some ⟨g', 0, none⟩) c' (n + 1) (upd R n r) := by
 refine ⟨upd V n v, fun k hkn => ?_, ?_⟩
 · by_cases e : k = n
   · subst e; rw [upd_same, upd_same]; exact hr.kp hk
   · rw [upd_ne _ _ e, upd_ne _ _ e]; exact (hV k (by omega)).kp hk
 · rw [cellsV_succ, upd_same, cellsV_congr (U := V) fun j hj => upd_ne _ _ (by omega)]
   exact h
/-- out = append(out, x), at a step of a region that draws -/
theorem step_appR {w : World} {ops : Array Oper} {o : Oper} {a : Act} {K : Act → World → Prop} {Q : Exit → Act → World → Prop} {E : Prop} (hgd : o.guard = none) (s x : Operand)
   (ho : o.op = .call { callee := .builtin .append, args := #[s, x], argTypes := #[23, 23] })
   (b0 : Nat) (A : Option Addr) (c n : Nat) (R : Nat → Rw) (hs : a.eval s = .slice A n c) (hown : OwR w b0 A c n R)
   (B : Nat) (sg : Bool) (A1 : Option Addr) (n1 c1 : Nat) (B1 : Option Addr) (m1 d1 : Nat) (r : Rw) (hx : a.eval x = .slice (some ⟨B, 0, none⟩) 1 1)
   (hc0 : w.cell? ⟨B, 0, none⟩ = some (.bool sg)) (hc1 : w.cell? ⟨B, 1, none⟩ = some (.slice A1 n1 c1)) (hc2 : w.cell? ⟨B, 2, none⟩ = some (.slice B1 m1 d1)) (hr : RdS w b0 (rv sg A1 n1 c1 B1 m1 d1) r)
   (hn : n ≤ 1000000) (hbase : b0 ≤ w.heap.size)
   (h : ∀ g cap w', OwR w' b0 (some ⟨g, 0, none⟩) cap (n + 1) (upd R n r) → w.grownBy w' (Value.slice A n c).ownBlock → ((Value.slice A n c).ownBlock = some g ∨ w.heap.size ≤ g) → K (a.put o.dst (.slice (some ⟨g, 0, none⟩) (n + 1) cap)) w') :
   if Region.wanted o (yielded ops a.tmps) = true then Oper.wp Tryz.prog o a w K Q else E := by
 obtain ⟨i0, hi0, hz0, hz1, hz2⟩ := info_parts ratInfo
 have hown0 := hown
 obtain ⟨V, hV, hown⟩ := hown
 refine step_append_lies _ hgd s x 23 ho b0 56 i0 _ 3 56 Tryz.underlying23 hi0 hz0 hz1 hz2 rfl (by omega) _ n _ hs hown ⟨B, 0, none⟩ 1 1 (c3 (rv sg A1 n1 c1 B1 m1 d1)) hx rfl ?_ ?_ (by omega) (by unfold maxLen; omega) (by omega) hbase w.heap.size rfl ?_
 · intro j u hu
   rw [addr_add, Nat.zero_add]
   match j, hu with
   | 0, hu => simp [c3] at hu; subst hu; exact hc0
   | 1, hu => simp [c3] at hu; subst hu; exact hc1
   | 2, hu => simp [c3] at hu; subst hu; exact hc2
   | j + 3, hu => simp [c3] at hu
 · intro u hu
   simp [c3] at hu
   rcases hu with rfl | rfl | rfl <;> rfl
 · intro g cap w' h1 h2 h3 h4
   refine h g cap w' (OwR.snoc (A := A) (c := c) hV hr (Kp.of_grown h2 ?_) h1) h2 (h3.imp id fun e => by omega)
   intro k hk
   cases e : A with
   | none => rw [e] at hk; cases hk
   | some a =>
     rw [e] at hk
     injection hk with hk
     subst hk
     exact hown0.blockA e
theorem own_blk (A : Option Addr) (n m c d : Nat) : (Value.slice A n c).ownBlock = (Value.slice A m d).ownBlock := by cases A <;> rfl
end Go.Proofs.YtoiopnmphbnjaaaGreatDoor
namespace Go.Proofs.YtoiopnmphbnjaaaGreatDoor
open Go.RowKit
set_option linter.unusedSimpArgs false
set_option linter.unusedVariables false
set_option maxRecDepth 20000
/-! ## make with room -/
theorem own_cut {w : World} {b0 g c m k : Nat} {ty : TypeId} {l : List Value} (h : w.ownsRow b0 ty 1 (.slice (some ⟨g, 0, none⟩) m c) m l) (hk : k ≤ m) : w.ownsRow b0 ty 1 (.slice (some ⟨g, 0, none⟩) k c) k (l.take k) := by
 obtain ⟨h1, h2⟩ := h
 refine ⟨by rw [List.length_take, h1]; omega, ?_⟩
 rcases h2 with ⟨e, _⟩ | ⟨g', cap, cur, e, hb, hg, hmc, hcm, hsz, ht⟩
 · injection e with e; cases e
 · injection e with e1 e2 e3
   subst e3
   refine .inr ⟨g', c, cur, by rw [e1], hb, hg, by omega, hcm, hsz, ?_⟩
   rw [← ht, List.take_take, Nat.mul_one, Nat.mul_one, Nat.min_eq_left (by omega)]
theorem wpList_makeVc {w : World} {ops : Array Oper} {rest : List Oper} {o : Oper} {a : Act} {Q : Exit → Act → World → Prop}
   (hg : o.guard = none) (l c : Operand) (hop : o.op = Op.makeSlice 30 l c)
   (b0 n m : Nat) (L C : Int) (hl : a.eval l = .int .i64 L) (hc : a.eval c = .int .i64 C) (hL : L = (n : Int)) (hC : C = (m : Int)) (hnm : n ≤ m) (hm : m ≤ 1000000) (hb : b0 ≤ w.heap.size)
   (h : ∀ w', OwVb w' b0 (some ⟨w.heap.size, 0, none⟩) m n (fun _ => false) → Below w.heap.size w w' → wpList Tryz.prog ops Q rest (a.put o.dst (.slice (some ⟨w.heap.size, 0, none⟩) n m)) w') : wpList Tryz.prog ops Q (o :: rest) a w := by
 obtain ⟨i, hi, hz, hs, hby⟩ := info_parts infoV
 refine wpList_plain hg fun K hK' => ?_
 subst hL
 subst hC
 have hr := run_make (P := Tryz.prog) w 30 4 i (.bool false) Tryz.underlying30 hi hz .i64 .i64 (n : Int) (m : Int) (by omega) (by omega) (by rw [hby]; omega) (by omega)
 simp only [Int.toNat_natCast] at hr
 have h0 := World.ownsRow_lit w (e := 4) (size := 1) (madeCells (Value.cells (.bool false)) (m * i.size)) m hb (by unfold maxLen; omega) (by rw [hs]; exact size_madeCells _ _)
 have h1 := own_cut h0 hnm
 have e : (madeCells (Value.cells (.bool false)) (m * i.size)).toList.take n = bvl n (fun _ => false) := by
   rw [hs, Nat.mul_one]
   show (madeCells #[Value.bool false] m).toList.take n = _
   rw [toList_madeCells_one]
   apply List.ext_getElem (by simp [bvl]; omega)
   intro j h1 h2
   simp [bvl]
 rw [e] at h1
 unfold Oper.wp
 simp [execOp, hop, hl, hc, hr, Result.andThen]
 exact hK' _ _ (h _ h1 ((Below.refl _ _).grown (World.grownBy_alloc w _ none) (Nat.le_refl _) (by intro k hk; cases hk)))
end Go.Proofs.YtoiopnmphbnjaaaGreatDoor
namespace Go.Proofs.YtoiopnmphbnjaaaGreatDoor
open Go.RowKit
set_option linter.unusedSimpArgs false
set_option linter.unusedVariables false
/-! ## what is neither a row of fractions nor of rows stays -/
def KT (w w' : World) : Prop := ∀ (k : Nat) (cur : Array Value) (e : TypeId) (fz : Nat × Nat), w.heap[k]? = some (.cells cur e fz) → e ≠ 56 → e ≠ 23 → w'.heap[k]? = w.heap[k]?
/-! ## lists of ints of a call's own -/
section
variable {w w1 w' : World} {base base' c b0 o co n i j g : Nat} {A : Option Addr} {l : List Nat} {len : Nat → Nat} {M : Nat → Nat → Rat}
/-! ## two rows change places -/
end
end Go.Proofs.YtoiopnmphbnjaaaGreatDoor
