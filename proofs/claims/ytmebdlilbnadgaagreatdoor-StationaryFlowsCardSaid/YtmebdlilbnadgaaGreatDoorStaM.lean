/- Contracts of functions and lemmas, used by the proofs of the given statements. No condition beyond those that each lemma names. -/
import Derived.Test.YtmebdlilbnadgaaGreatDoorJLinY
import Derived.Maps.OwnOps
import Derived.Maps.OwnSet
namespace Go.Proofs.YtmebdlilbnadgaaGreatDoor
open Go.RowKit
open Go.Maps
set_option linter.unusedSimpArgs false
set_option linter.unusedVariables false
set_option maxRecDepth 20000
/-! ## a map from int to int that the call makes -/
theorem intKeyed : Keyed Tryz.prog 3 := int_keyed Tryz.underlying3
theorem zeroInt (w : World) : (zeroValue 3).run Tryz.prog w = .ok (.int .i64 0) w := by kernel_rfl
abbrev OwMp (w : World) (b n : Nat) (D : DataW Unit) : Prop := w.ownsMap Tryz.prog 3 (plainElem Tryz.prog 3) b n D
theorem wfN {a : Nat} (h : a ≤ 1000000) : (Lit.int .i64 (a : Int)).wf = true := WalkArith.wf_i64 (by omega)
section
variable {w : World} {ops : Array Oper} {rest : List Oper} {o : Oper} {a : Act} {Q : Exit → Act → World → Prop} {B : Nat → Bool}
theorem wpList_mpPut (hg : o.guard = none) (m x v : Operand) (hop : o.op = Op.mapUpdate 80 m x v) (b k n s : Nat) (hm : a.eval m = .map (some b)) (hown : OwMp w b k (mpD B n k)) (hk : k ≤ 1000000) (hs : s = ixB B n k) (hs2 : s ≤ 1000000)
    (hx : a.eval x = .int .i64 (s : Int)) (hv : a.eval v = .int .i64 (k : Int)) (hK : ∀ w', OwMp w' b (k + 1) (mpD B n (k + 1)) → w.grownBy w' (some b) → wpList Tryz.prog ops Q rest (a.put o.dst undef) w') : wpList Tryz.prog ops Q (o :: rest) a w := by
  subst hs
  exact wpList_mapUpdate_own w hg m x v 80 hop 3 3 intKeyed Tryz.underlying80 (plainElem Tryz.prog 3) b k _ hm hown (by unfold maxLen; omega) _ _ _ hx hv (keyOf_int_mk Tryz.underlying3 (wfN hs2)) _ [] (plainElem_int Tryz.underlying3 (wfN hk)) hK
theorem wpList_mpYes (hg : o.guard = none) (m x : Operand) (hop : o.op = Op.lookup 80 m x true) (b n s p : Nat) (hm : a.eval m = .map (some b)) (hown : OwMp w b (cntB B n) (mpD B n (cntB B n))) (hs : s < n) (hn : n ≤ 1000000) (hB : B s = true) (hp : p = cntB B s)
    (hx : a.eval x = .int .i64 (s : Int)) (hK : wpList Tryz.prog ops Q rest (a.put o.dst (.tuple #[.int .i64 (p : Int), .bool true])) w) : wpList Tryz.prog ops Q (o :: rest) a w := by
  subst hp
  refine wpList_lookup_own_ok_int w hg m x 80 hop 3 3 .i64 intKeyed Tryz.underlying80 Tryz.underlying3 (zeroInt w) b (cntB B n) _ hm hown _ _ hx (keyOf_int_mk Tryz.underlying3 (wfN (by omega))) fun c hc _ => ?_
  have h1 := (ixB_cnt hs hB).1
  rw [mpD_at hs hB (Nat.le_refl _) h1] at hc
  injection hc with hc
  injection hc with _ hc
  rw [← hc, mpD_has hs (Nat.le_refl _), hB, Bool.true_and, decide_eq_true h1]
  exact hK
theorem wpList_mpNo (hg : o.guard = none) (m x : Operand) (hop : o.op = Op.lookup 80 m x true) (b n s : Nat) (hm : a.eval m = .map (some b)) (hown : OwMp w b (cntB B n) (mpD B n (cntB B n))) (hs : s < n) (hn : n ≤ 1000000) (hB : B s = false)
    (hx : a.eval x = .int .i64 (s : Int)) (hK : ∀ c : Int, wpList Tryz.prog ops Q rest (a.put o.dst (.tuple #[.int .i64 c, .bool false])) w) : wpList Tryz.prog ops Q (o :: rest) a w := by
  refine wpList_lookup_own_ok_int w hg m x 80 hop 3 3 .i64 intKeyed Tryz.underlying80 Tryz.underlying3 (zeroInt w) b (cntB B n) _ hm hown _ _ hx (keyOf_int_mk Tryz.underlying3 (wfN (by omega))) fun c hc _ => ?_
  rw [mpD_has hs (Nat.le_refl _), hB, Bool.false_and]
  exact hK c
theorem wpList_mpGet (hg : o.guard = none) (m x : Operand) (hop : o.op = Op.lookup 80 m x false) (b n s p : Nat) (hm : a.eval m = .map (some b)) (hown : OwMp w b (cntB B n) (mpD B n (cntB B n))) (hs : s < n) (hn : n ≤ 1000000) (hB : B s = true) (hp : p = cntB B s)
    (hx : a.eval x = .int .i64 (s : Int)) (hK : wpList Tryz.prog ops Q rest (a.put o.dst (.int .i64 (p : Int))) w) : wpList Tryz.prog ops Q (o :: rest) a w := by
  subst hp
  refine wpList_lookup_own_int w hg m x 80 hop 3 3 .i64 intKeyed Tryz.underlying80 Tryz.underlying3 (zeroInt w) b (cntB B n) _ hm hown _ _ hx (keyOf_int_mk Tryz.underlying3 (wfN (by omega))) fun c hc _ => ?_
  rw [mpD_at hs hB (Nat.le_refl _) (ixB_cnt hs hB).1] at hc
  injection hc with hc
  injection hc with _ hc
  rw [← hc]
  exact hK
end
theorem OwMp.below {w w' : World} {b n : Nat} {D : DataW Unit} (h : OwMp w b n D) (hb : Below w.heap.size w w') : OwMp w' b n D := h.kept (grown_of_below hb none) (by simp)
end Go.Proofs.YtmebdlilbnadgaaGreatDoor
