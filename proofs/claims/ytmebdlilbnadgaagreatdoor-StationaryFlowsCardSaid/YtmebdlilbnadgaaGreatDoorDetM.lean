/- Contracts of functions and lemmas, used by the proofs of the given statements. No condition beyond those that each lemma names. -/
import Derived.Test.YtmebdlilbnadgaaGreatDoorJLinY
import Derived.Test.YtmebdlilbnadgaaGreatDoorStaM
import Derived.WideKeyPair
import Derived.Maps.OwnOps
import Derived.Maps.OwnSet
import Derived.Maps.Views
namespace Go.Proofs.YtmebdlilbnadgaaGreatDoor
open Go.RowKit
open Go.Maps Go.WideMaps
set_option linter.unusedSimpArgs false
set_option linter.unusedVariables false
set_option maxRecDepth 20000
attribute [local irreducible] nv wp win plainB validR valR canR mvE chkM codeC
/-! ## a map from pairs of states to rates that the call makes -/
theorem pairArr : ArrKey Tryz.prog 91 3 2 := ⟨Tryz.underlying91, by kernel_rfl, by kernel_rfl, by kernel_rfl⟩
theorem pairSz : ∃ m, Tryz.prog.types.size = m + 1 := ⟨Tryz.prog.types.size - 1, by have : 0 < Tryz.prog.types.size := of_decide_eq_true (by kernel_rfl); omega⟩
theorem pairKeyed : Keyed Tryz.prog 91 := Keyed.of_law pairArr.law
theorem zeroRat (w : World) : (zeroValue 30).run Tryz.prog w = .ok zr w := by kernel_rfl
def pkL (a b : Nat) : Lit := .string (keyBytes [.int .i64 (a : Int), .int .i64 (b : Int)])
theorem pkL_key {a b : Nat} (ha : a ≤ 1000000) (hb : b ≤ 1000000) : keyOf Tryz.prog 91 (.agg #[.int .i64 (a : Int), .int .i64 (b : Int)]) = some (pkL a b) := keyOf_pair pairArr Tryz.underlying3 pairSz (wfN ha) (wfN hb)
theorem pkL_inj {a b a' b' : Nat} (ha : a ≤ 1000000) (hb : b ≤ 1000000) (ha' : a' ≤ 1000000) (hb' : b' ≤ 1000000) (h : pkL a b = pkL a' b') : a = a' ∧ b = b' := by
  have h1 := pkL_key ha hb
  rw [h] at h1
  have := pairKeyed.inj h1 (pkL_key ha' hb')
  injection this with this
  have e0 := congrArg (fun x : Array Value => x[0]?) this
  have e1 := congrArg (fun x : Array Value => x[1]?) this
  simp at e0 e1
  omega
/-- an element stands for itself -/
def tokE (v : Value) : Option (DataW Value × List MemPlace) := some (.held v, [])
abbrev OwMr (w : World) (b n : Nat) (D : DataW Value) : Prop := w.ownsMap Tryz.prog 91 tokE b n D
/-- what the map holds after k moves -/
def mapD (V : Nat → Value) (F T : Nat → Nat) : Nat → DataW Value
  | 0 => .map []
  | k + 1 => (mapD V F T k).put (pkL (F k) (T k)) (.held (V k))
def vM (V : Nat → Value) (F T : Nat → Nat) (a b : Nat) : Nat → Value
  | 0 => zr
  | k + 1 => if F k = a ∧ T k = b then V k else vM V F T a b k
theorem mapD_map (V : Nat → Value) (F T : Nat → Nat) : ∀ k, IsMap (mapD V F T k)
  | 0 => ⟨[], rfl⟩
  | k + 1 => (mapD_map V F T k).put _ _
theorem mapD_at {V : Nat → Value} {F T : Nat → Nat} {a b : Nat} (ha : a ≤ 1000000) (hb : b ≤ 1000000) : ∀ k, (∀ j, j < k → F j ≤ 1000000 ∧ T j ≤ 1000000) → (mapD V F T k).atKey (pkL a b) (.held zr) = .held (vM V F T a b k)
  | 0, _ => rfl
  | k + 1, h => by
    have ih := mapD_at (V := V) (F := F) (T := T) ha hb k fun j hj => h j (by omega)
    obtain ⟨h1, h2⟩ := h k (by omega)
    show ((mapD V F T k).put (pkL (F k) (T k)) (.held (V k))).atKey (pkL a b) (.held zr) = _
    unfold vM
    by_cases e : F k = a ∧ T k = b
    · rw [if_pos e, ← e.1, ← e.2, atKey_put_same (mapD_map V F T k) (by trivial)]
    · rw [if_neg e, atKey_put_other (fun h3 => e (by
        have := pkL_inj ha hb h1 h2 h3
        exact ⟨this.1.symm, this.2.symm⟩))]
      exact ih
theorem vM_rd {V : Nat → Value} {F T : Nat → Nat} {q : Nat → Rat} {a b : Nat} {P : Value → Rat → Prop} (h0 : P zr 0) : ∀ k, (∀ j, j < k → P (V j) (q j)) → P (vM V F T a b k) (rtN F T q a b k)
  | 0, _ => h0
  | k + 1, h => by
    unfold vM rtN
    by_cases e : F k = a ∧ T k = b
    · rw [if_pos e, if_pos e]; exact h k (by omega)
    · rw [if_neg e, if_neg e]; exact vM_rd h0 k fun j hj => h j (by omega)
section
variable {w : World} {ops : Array Oper} {rest : List Oper} {o : Oper} {a : Act} {Q : Exit → Act → World → Prop} {V : Nat → Value} {F T : Nat → Nat}
theorem wpList_mrPut (hg : o.guard = none) (m x v : Operand) (hop : o.op = Op.mapUpdate 90 m x v) (b k : Nat) (hm : a.eval m = .map (some b)) (hown : OwMr w b k (mapD V F T k)) (hk : k ≤ 1000000) (f t : Nat) (hf : f = F k) (ht : t = T k) (hf2 : f ≤ 1000000) (ht2 : t ≤ 1000000) (vk : Value) (hvk : vk = V k)
    (hx : a.eval x = .agg #[.int .i64 (f : Int), .int .i64 (t : Int)]) (hv : a.eval v = vk) (hK : ∀ w', OwMr w' b (k + 1) (mapD V F T (k + 1)) → w.grownBy w' (some b) → wpList Tryz.prog ops Q rest (a.put o.dst undef) w') : wpList Tryz.prog ops Q (o :: rest) a w := by
  subst hf ht hvk
  exact wpList_mapUpdate_own w hg m x v 90 hop 91 30 pairKeyed Tryz.underlying90 tokE b k _ hm hown (by unfold maxLen; omega) _ _ _ hx hv (pkL_key hf2 ht2) _ [] rfl hK
theorem wpList_mrGet (hg : o.guard = none) (m x : Operand) (hop : o.op = Op.lookup 90 m x false) (b k : Nat) (hm : a.eval m = .map (some b)) (hown : OwMr w b k (mapD V F T k)) (hFT : ∀ j, j < k → F j ≤ 1000000 ∧ T j ≤ 1000000) (f t : Nat) (hf2 : f ≤ 1000000) (ht2 : t ≤ 1000000) (v : Value) (hv : vM V F T f t k = v)
    (hx : a.eval x = .agg #[.int .i64 (f : Int), .int .i64 (t : Int)]) (hK : wpList Tryz.prog ops Q rest (a.put o.dst v) w) : wpList Tryz.prog ops Q (o :: rest) a w := by
  refine wpList_plain hg fun K' hK' => ?_
  obtain ⟨u, ps, hrun, hu⟩ := hown.lookup pairKeyed Tryz.underlying90 (zeroRat w) (show tokE zr = some (.held zr, []) from rfl) (pkL_key hf2 ht2)
  have e : u = v := by
    rw [mapD_at hf2 ht2 k hFT] at hu
    have h1 : (DataW.held u : DataW Value) = .held (vM V F T f t k) := congrArg Prod.fst (Option.some.inj hu)
    injection h1 with h1
    rw [h1, hv]
  subst e
  unfold Oper.wp
  simp [execOp, hop, hm, hx, hrun, Result.andThen]
  exact hK' _ _ hK
end
theorem OwMr.below {w w' : World} {b n : Nat} {D : DataW Value} (h : OwMr w b n D) (hb : Below w.heap.size w w') : OwMr w' b n D := h.kept (grown_of_below hb none) (by simp)
/-- the moves of a chain, their rates as values -/
theorem ChI.mv_all {w : World} {cm cd : Nat} {AM AD : Option Addr} {c : Chn} (h : ChI w w.heap.size AM cm AD cd c) (ok : c.Ok) : ∃ V : Nat → Value, ∀ W, Below w.heap.size w W → ∀ k, k < c.nm → ∃ bm om s1 A1 n1 c1 B1 m1 d1, V k = rv s1 A1 n1 c1 B1 m1 d1 ∧ AM = some ⟨bm, om, none⟩ ∧ bm < w.heap.size
    ∧ W.cell? ⟨bm, om + k * 5, none⟩ = some (.int .i64 ((c.f k : Nat) : Int)) ∧ W.cell? ⟨bm, om + k * 5 + 1, none⟩ = some (.int .i64 ((c.t k : Nat) : Int)) ∧ W.cell? ⟨bm, om + k * 5 + 2, none⟩ = some (.bool s1) ∧ W.cell? ⟨bm, om + k * 5 + 3, none⟩ = some (.slice A1 n1 c1) ∧ W.cell? ⟨bm, om + k * 5 + 4, none⟩ = some (.slice B1 m1 d1)
    ∧ RdS W w.heap.size (rv s1 A1 n1 c1 B1 m1 d1) (c.R k) ∧ c.f k < c.nd ∧ c.t k < c.nd ∧ c.f k ≠ c.t k := by
  obtain ⟨V, h1, h2⟩ := h.mv.1
  refine ⟨V, fun W hb k hk => ?_⟩
  obtain ⟨bm, om, e, hbm, hc⟩ := h2.2 (by omega)
  have hv := h1 k hk
  obtain ⟨s1, A1, n1, c1, B1, m1, d1, ev⟩ := hv.form
  rw [ev] at hv
  obtain ⟨g0, g1, g2, g3, g4⟩ := cellsM_get (F := c.F) (T := c.T) (fun k hk => (h1 k hk).isR) hk ev
  obtain ⟨e0, e1, e2, e3, e4, e5, -⟩ := ok.mv k hk
  have hf : c.F k = ((c.f k : Nat) : Int) := by unfold Chn.f; omega
  have ht : c.T k = ((c.t k : Nat) : Int) := by unfold Chn.t; omega
  rw [hf] at g0
  rw [ht] at g1
  exact ⟨bm, om, s1, A1, n1, c1, B1, m1, d1, ev, e, hbm, (hb.cell (p := ⟨bm, om + k * 5, none⟩) hbm).trans (hc _ _ g0), (hb.cell (p := ⟨bm, om + k * 5 + 1, none⟩) hbm).trans (by rw [Nat.add_assoc]; exact hc _ _ g1), (hb.cell (p := ⟨bm, om + k * 5 + 2, none⟩) hbm).trans (by rw [Nat.add_assoc]; exact hc _ _ g2), (hb.cell (p := ⟨bm, om + k * 5 + 3, none⟩) hbm).trans (by rw [Nat.add_assoc]; exact hc _ _ g3), (hb.cell (p := ⟨bm, om + k * 5 + 4, none⟩) hbm).trans (by rw [Nat.add_assoc]; exact hc _ _ g4), hv.kp (Kp.of_below hb), by omega, by omega, fun h => e4 (by omega)⟩
end Go.Proofs.YtmebdlilbnadgaaGreatDoor
