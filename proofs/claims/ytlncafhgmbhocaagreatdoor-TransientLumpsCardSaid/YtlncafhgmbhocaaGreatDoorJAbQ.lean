/- Contracts of functions and lemmas, used by the proofs of the given statements. No condition beyond those that each lemma names. -/
import Derived.Test.YtlncafhgmbhocaaGreatDoorJBase
import Derived.Test.YtlncafhgmbhocaaGreatDoorLinX
import Derived.Test.YtlncafhgmbhocaaGreatDoorTrW3
import Derived.Test.YtlncafhgmbhocaaGreatDoorChX
import Derived.Test.YtlncafhgmbhocaaGreatDoorJOpenNum
namespace Go.Proofs.YtlncafhgmbhocaaGreatDoor
set_option linter.unusedSimpArgs false
set_option linter.unusedVariables false
/-! ## sums over moves (plain) -/
theorem sumN_add (f g : Nat → Rat) : ∀ n, sumN (fun k => f k + g k) n = sumN f n + sumN g n
  | 0 => by unfold sumN; grind
  | n + 1 => by rw [sumN, sumN, sumN, sumN_add f g n]; grind
theorem sumN_sub (f g : Nat → Rat) : ∀ n, sumN (fun k => f k - g k) n = sumN f n - sumN g n
  | 0 => by unfold sumN; grind
  | n + 1 => by rw [sumN, sumN, sumN, sumN_sub f g n]; grind
theorem sumN_smul (a : Rat) (f : Nat → Rat) : ∀ n, sumN (fun k => a * f k) n = a * sumN f n
  | 0 => by unfold sumN; grind
  | n + 1 => by rw [sumN, sumN, sumN_smul a f n]; grind
theorem sumN_nil {f : Nat → Rat} : ∀ {n}, (∀ k, k < n → f k = 0) → sumN f n = 0
  | 0, _ => rfl
  | n + 1, h => by rw [sumN, sumN_nil fun k hk => h k (by omega), h n (by omega)]; grind
theorem sumN_swap (a : Nat → Nat → Rat) (n : Nat) : ∀ m, sumN (fun j => sumN (fun k => a j k) m) n = sumN (fun k => sumN (fun j => a j k) n) m
  | 0 => by show sumN (fun _ => 0) n = 0; exact sumN_nil fun _ _ => rfl
  | m + 1 => by
    show sumN (fun j => sumN (fun k => a j k) m + a j m) n = _
    rw [sumN_add, sumN_swap a n m, sumN]
theorem sumN_pick {f : Nat → Rat} {a : Nat} : ∀ {n}, sumN (fun j => if j = a then f j else 0) n = if a < n then f a else 0
  | 0 => by simp [sumN]
  | n + 1 => by
    rw [sumN, sumN_pick]
    by_cases e : n = a
    · subst e
      rw [if_neg (by omega), if_pos rfl, if_pos (by omega)]; grind
    · rw [if_neg e]
      by_cases h : a < n
      · rw [if_pos h, if_pos (by omega)]; grind
      · rw [if_neg h, if_neg (by omega)]; grind
theorem sumN_ge0 {f : Nat → Rat} : ∀ {n}, (∀ k, k < n → 0 ≤ f k) → 0 ≤ sumN f n
  | 0, _ => Rat.le_refl
  | n + 1, h => by
    have ih := sumN_ge0 (f := f) (n := n) fun k hk => h k (by omega)
    have := h n (by omega)
    rw [sumN]; grind
theorem exK_sum (F : Nat → Nat) (q : Nat → Rat) (s : Nat) : ∀ n, exK F q s n = sumN (fun k => if F k = s then q k else 0) n
  | 0 => rfl
  | n + 1 => by
    rw [exK, sumN, exK_sum F q s n]
    split
    · rfl
    · grind
/-! ## the system of the live states -/
section
variable (l : Nat → Bool) (F T : Nat → Nat) (q : Nat → Rat) (back : Bool)
end
section
variable {l D : Nat → Bool} {F T : Nat → Nat} {q : Nat → Rat} {back : Bool} {nm n i : Nat} {z y : Nat → Rat}
end
/-! ## full rank -/
end Go.Proofs.YtlncafhgmbhocaaGreatDoor
namespace Go.Proofs.YtlncafhgmbhocaaGreatDoor
set_option linter.unusedSimpArgs false
set_option linter.unusedVariables false
/-! ## the solution, by the whole matrix and by the live states alone (plain) -/
theorem cntB_ix {B : Nat → Bool} {t : Nat} : ∀ {n : Nat}, t < cntB B n → cntB B (ixB B n t) = t
  | 0, h => by unfold cntB kept at h; simp at h
  | n + 1, h => by
    cases hb : B n
    · rw [cntB_no hb] at h
      rw [ixB_stay (B := B) (i := t) (n := n + 1) (k := n) (by omega) h]
      exact cntB_ix h
    · rw [cntB_yes hb] at h
      by_cases e : t = cntB B n
      · subst e
        rw [ixB_new (by omega) hb]
      · rw [ixB_stay (B := B) (i := t) (n := n + 1) (k := n) (by omega) (by omega)]
        exact cntB_ix (by omega)
theorem ixB_cnt {B : Nat → Bool} {s n : Nat} (hs : s < n) (h : B s = true) : cntB B s < cntB B n ∧ ixB B n (cntB B s) = s := by
  refine ⟨?_, ixB_new hs h⟩
  have := cntB_mono (B := B) (k := s + 1) (n := n) (by omega)
  rw [cntB_yes h] at this
  omega
section
variable {l D : Nat → Bool} {F T : Nat → Nat} {q : Nat → Rat} {nm n i : Nat} {z y : Nat → Rat} (back : Bool)
end
end Go.Proofs.YtlncafhgmbhocaaGreatDoor
namespace Go.Proofs.YtlncafhgmbhocaaGreatDoor
open Go.RowKit
set_option linter.unusedSimpArgs false
set_option linter.unusedVariables false
set_option maxRecDepth 20000
attribute [local irreducible] nv wp win plainB validR valR canR mvE chkM codeC exK maxF
/-! ## package transient: Step -/
theorem Chn.codeR_0 {c : Chn} {r : Rw} (h : c.codeR r = 0) : c.code = 0 ∧ 0 < valR r ∧ c.fast ≤ valR r := by
  unfold Chn.codeR at h
  split at h
  · contradiction
  · rename_i h1
    split at h
    · omega
    · rename_i h2
      rw [not_or] at h2
      exact ⟨by omega, Classical.not_not.1 h2.1, Rat.not_lt.1 h2.2⟩
theorem valR_pos_can {r : Rw} (hok : okR r) (h : 0 < valR r) : canR (valR r) = r := by
  cases hv : validR r
  · exact absurd h (valR_no hv)
  · exact canR_valR hok hv
theorem RdS.ok {w : World} {b0 : Nat} {v : Value} {r : Rw} (h : RdS w b0 v r) : okR r := by
  obtain ⟨_, _, _, _, _, _, _, hok, _⟩ := h
  exact hok
end Go.Proofs.YtlncafhgmbhocaaGreatDoor
namespace Go.Proofs.YtlncafhgmbhocaaGreatDoor
open Go.RowKit
set_option linter.unusedSimpArgs false
set_option linter.unusedVariables false
set_option maxRecDepth 20000
attribute [local irreducible] nv wp win plainB validR valR canR
/-! ## rows of moves that grow, blocks of a kind -/
/-- what kind of block it is -/
def TyB (t : TypeId) (w : World) (g : Nat) : Prop := ∃ cur fz, w.heap[g]? = some (.cells cur t fz)
section
variable {t : TypeId} {w w' : World} {g b0 : Nat}
theorem TyB.set (h : TyB t w g) (b o : Nat) (u : Value) : TyB t (w.setCell ⟨b, o, none⟩ u) g := by
  obtain ⟨cur, fz, h⟩ := h
  by_cases e : b = g
  · subst e
    refine ⟨cur.setIfInBounds o u, fz, ?_⟩
    simp [World.setCell, Array.getElem?_modify, h]
  · refine ⟨cur, fz, ?_⟩
    simp [World.setCell, Array.getElem?_modify, h, e]
end
theorem OwM.blockA {w : World} {b0 c n : Nat} {A : Option Addr} {F T : Nat → Int} {R : Nat → Rw} {a : Addr} (h : OwM w b0 A c n F T R) (ha : A = some a) : b0 ≤ a.block ∧ ∃ cur, w.heap[a.block]? = some (.cells cur 46 (0, 0)) := by
  subst ha
  obtain ⟨V, h1, h2⟩ := h
  rcases h2.2 with ⟨h, _⟩ | ⟨g', cap, cur, e, hb, hg, _⟩
  · cases h
  · injection e with e
    injection e with e
    subst e
    exact ⟨hb, cur, hg⟩
theorem Kp.of_grownT {t : TypeId} {w w' : World} {b0 : Nat} (ht : t ≠ 67) {row : Option Nat} (h : w.grownBy w' row) (hr : ∀ k, row = some k → b0 ≤ k ∧ ∃ cur, w.heap[k]? = some (.cells cur t (0, 0))) : Kp b0 w w' := by
  cases row with
  | none => exact ⟨h.os, h.tape, h.output, h.size, fun k hk _ => h.block k hk (by simp)⟩
  | some g =>
    obtain ⟨h1, cur, h2⟩ := hr g rfl
    exact Kp.grown h h1 h2 ht
theorem OwM.snoc {w w1 : World} {b0 n c' g' : Nat} {F T : Nat → Int} {R : Nat → Rw} {V : Nat → Value} {f t : Int} {v : Value} {r : Rw} (hV : ∀ k, k < n → RdS w b0 (V k) (R k)) (hr : RdS w b0 v r) (hk : Kp b0 w w1)
    (h : w1.ownsRow b0 46 5 (.slice (some ⟨g', 0, none⟩) (n + 1) c') (n + 1) (cellsM n F T V ++ cellM f t v)) : OwM w1 b0 (some ⟨g', 0, none⟩) c' (n + 1) (upd F n f) (upd T n t) (upd R n r) := by
  refine ⟨upd V n v, fun k hkn => ?_, ?_⟩
  · by_cases e : k = n
    · subst e; rw [upd_same, upd_same]; exact hr.kp hk
    · rw [upd_ne _ _ e, upd_ne _ _ e]; exact (hV k (by omega)).kp hk
  · rw [cellsM_succ, upd_same, upd_same, upd_same, cellsM_congr (F' := F) (T' := T) (U := V) fun j hj => ⟨upd_ne _ _ (by omega), upd_ne _ _ (by omega), upd_ne _ _ (by omega)⟩]
    exact h
/-- out = append(out, m) -/
theorem wpList_appM1 {w : World} {ops : Array Oper} {rest : List Oper} {o : Oper} {a : Act} {Q : Exit → Act → World → Prop} (hgd : o.guard = none) (s x : Operand)
    (ho : o.op = .call { callee := .builtin .append, args := #[s, x], argTypes := #[22, 22] })
    (b0 : Nat) (A : Option Addr) (c n : Nat) (F T : Nat → Int) (R : Nat → Rw) (hs : a.eval s = .slice A n c) (hown : OwM w b0 A c n F T R)
    (B : Nat) (f t : Int) (sg : Bool) (A1 : Option Addr) (n1 c1 : Nat) (B1 : Option Addr) (m1 d1 : Nat) (r : Rw) (hx : a.eval x = .slice (some ⟨B, 0, none⟩) 1 1)
    (hc0 : w.cell? ⟨B, 0, none⟩ = some (.int .i64 f)) (hc1 : w.cell? ⟨B, 1, none⟩ = some (.int .i64 t)) (hc2 : w.cell? ⟨B, 2, none⟩ = some (.bool sg)) (hc3 : w.cell? ⟨B, 3, none⟩ = some (.slice A1 n1 c1)) (hc4 : w.cell? ⟨B, 4, none⟩ = some (.slice B1 m1 d1)) (hr : RdS w b0 (rv sg A1 n1 c1 B1 m1 d1) r)
    (hn : n ≤ 1000000) (hbase : b0 ≤ w.heap.size)
    (h : ∀ g cap w', OwM w' b0 (some ⟨g, 0, none⟩) cap (n + 1) (upd F n f) (upd T n t) (upd R n r) → w.grownBy w' (Value.slice A n c).ownBlock → ((Value.slice A n c).ownBlock = some g ∨ w.heap.size ≤ g) → g < w'.heap.size → wpList Tryz.prog ops Q rest (a.put o.dst (.slice (some ⟨g, 0, none⟩) (n + 1) cap)) w') : wpList Tryz.prog ops Q (o :: rest) a w := by
  obtain ⟨i0, hi0, hz0, hz1, hz2⟩ := info_parts moveInfo
  have hown0 := hown
  obtain ⟨V, hV, hown⟩ := hown
  refine wpList_append_lies _ hgd s x 22 ho b0 46 i0 _ 5 72 Tryz.underlying22 hi0 hz0 hz1 hz2 rfl (by omega) _ n _ hs hown ⟨B, 0, none⟩ 1 1 (cellM f t (rv sg A1 n1 c1 B1 m1 d1)) hx rfl ?_ ?_ (by omega) (by unfold maxLen; omega) (by omega) hbase w.heap.size rfl ?_
  · intro j u hu
    rw [addr_add, Nat.zero_add]
    match j, hu with
    | 0, hu => simp [cellM, c3] at hu; subst hu; exact hc0
    | 1, hu => simp [cellM, c3] at hu; subst hu; exact hc1
    | 2, hu => simp [cellM, c3] at hu; subst hu; exact hc2
    | 3, hu => simp [cellM, c3] at hu; subst hu; exact hc3
    | 4, hu => simp [cellM, c3] at hu; subst hu; exact hc4
    | j + 5, hu => simp [cellM, c3] at hu
  · intro u hu
    simp [cellM, c3] at hu
    rcases hu with rfl | rfl | rfl | rfl | rfl <;> rfl
  · intro g cap w' h1 h2 h3 h4
    refine h g cap w' (OwM.snoc hV hr (Kp.of_grownT (t := 46) (by decide) h2 ?_) h1) h2 (h3.imp id fun e => by omega) h4
    intro k hk
    cases e : A with
    | none => rw [e] at hk; cases hk
    | some a =>
      rw [e] at hk
      injection hk with hk
      subst hk
      exact hown0.blockA e
end Go.Proofs.YtlncafhgmbhocaaGreatDoor
namespace Go.Proofs.YtlncafhgmbhocaaGreatDoor
open Go.RowKit
set_option linter.unusedSimpArgs false
set_option linter.unusedVariables false
set_option maxRecDepth 20000
attribute [local irreducible] nv wp win plainB validR valR canR
/-! ## no words lie in some blocks: so the bound below which a fraction's words may lie is lowered -/
def NWB (w : World) (k : Nat) : Prop := ∃ cs t fz, w.heap[k]? = some (.cells cs t fz) ∧ ∀ (j : Nat) u, cs[j]? = some u → ∀ x : Int, u ≠ .int .u32 x
section
variable {w w' : World} {b0 b1 bo co n c g bd : Nat} {A : Option Addr} {v : Value} {r : Rw} {R : Nat → Rw} {len : Nat → Nat} {M : Nat → Nat → Rat}
end
/-! ## reference: Reduce -/
end Go.Proofs.YtlncafhgmbhocaaGreatDoor
namespace Go.Proofs.YtlncafhgmbhocaaGreatDoor
open Go.RowKit
set_option linter.unusedSimpArgs false
set_option linter.unusedVariables false
set_option maxRecDepth 20000
/-! ## a matrix and one more column, as the laws and the reference write it: rows of a call's own, of fractions of whatever form -/
section
variable {w w' : World} {b c n : Nat} {A : Option Addr} {len : Nat → Nat} {R : Nat → Nat → Rw}
end
theorem RowA.base {w : World} {b0 b1 n : Nat} {A : Option Addr} {R : Nat → Rw} (h : RowA w b0 A n R) (hb : b0 ≤ b1) : RowA w b1 A n R := by
  obtain ⟨V, h1, h2⟩ := h
  exact ⟨V, fun k hk => (h1 k hk).base hb, h2⟩
end Go.Proofs.YtlncafhgmbhocaaGreatDoor
namespace Go.Proofs.YtlncafhgmbhocaaGreatDoor
set_option linter.unusedSimpArgs false
set_option linter.unusedVariables false
/-! ## partitions: blocks numbered by their first states (plain) -/
/-- a and b are in one block -/
def firS (R : Nat → Nat → Bool) (i : Nat) : Nat := ((List.range i).find? fun k => R k i).getD i
/-- an equivalence -/
structure Eqv (R : Nat → Nat → Bool) : Prop where
  rf : ∀ a, R a a = true
  sy : ∀ a b, R a b = true → R b a = true
  tr : ∀ a b d, R a b = true → R b d = true → R a d = true
section
variable {R : Nat → Nat → Bool}
theorem firS_spec (h : Eqv R) (i : Nat) : firS R i ≤ i ∧ R (firS R i) i = true ∧ ∀ k, R k i = true → firS R i ≤ k := by
  unfold firS
  cases hf : (List.range i).find? fun k => R k i with
  | none =>
    refine ⟨Nat.le_refl _, h.rf i, fun k hk => ?_⟩
    show i ≤ k
    apply Classical.byContradiction
    intro hlt
    have := List.find?_eq_none.1 hf k (List.mem_range.2 (by omega))
    exact this hk
  | some k =>
    have h1 := List.find?_some hf
    have h2 := List.mem_of_find?_eq_some hf
    have h3 := List.mem_range.1 h2
    refine ⟨by show k ≤ i; omega, h1, fun j hj => ?_⟩
    show k ≤ j
    apply Classical.byContradiction
    intro hlt
    obtain ⟨_, xs, bs, he, hn⟩ := List.find?_eq_some_iff_append.1 hf
    have hj2 : j ∈ xs := by
      have h4 : (List.range i)[j]? = some j := by rw [List.getElem?_range (by omega)]
      have h5 : xs.length = k := by
        have h6 : (List.range i)[xs.length]? = some k := by rw [he]; simp
        have h7 : xs.length < i := by
          have := congrArg List.length he
          simp at this
          omega
        rw [List.getElem?_range h7] at h6
        exact Option.some.inj h6
      rw [he, List.getElem?_append_left (by omega)] at h4
      exact List.mem_of_getElem? h4
    have := hn j hj2
    rw [hj] at this
    cases this
theorem firS_same (h : Eqv R) {a b : Nat} (hr : R a b = true) : firS R a = firS R b := by
  obtain ⟨h1, h2, h3⟩ := firS_spec h a
  obtain ⟨g1, g2, g3⟩ := firS_spec h b
  have e1 := h3 _ (h.tr _ _ _ g2 (h.sy _ _ hr))
  have e2 := g3 _ (h.tr _ _ _ h2 hr)
  omega
theorem firS_iff (h : Eqv R) {a b : Nat} : firS R a = firS R b ↔ R a b = true :=
  ⟨fun e => h.tr _ _ _ (h.sy _ _ (firS_spec h a).2.1) (by rw [e]; exact (firS_spec h b).2.1), firS_same h⟩
theorem firS_firS (h : Eqv R) (a : Nat) : firS R (firS R a) = firS R a := firS_same h (firS_spec h a).2.1
/-- the first states -/
def isF (R : Nat → Nat → Bool) (i : Nat) : Bool := firS R i == i
/-- the normed partition -/
def nrm (R : Nat → Nat → Bool) (i : Nat) : Nat := cntB (isF R) (firS R i)
theorem isF_fir (h : Eqv R) (a : Nat) : isF R (firS R a) = true := by unfold isF; rw [firS_firS h]; simp
theorem nrm_same (h : Eqv R) {a b : Nat} (hr : R a b = true) : nrm R a = nrm R b := by unfold nrm; rw [firS_same h hr]
theorem nrm_iff (h : Eqv R) {a b : Nat} : nrm R a = nrm R b ↔ R a b = true := by
  refine ⟨fun e => ?_, nrm_same h⟩
  refine (firS_iff h).1 ?_
  have ha := isF_fir h a
  have hb := isF_fir h b
  unfold nrm at e
  have key : ∀ x y, isF R x = true → x < y → cntB (isF R) x < cntB (isF R) y := fun x y hx hxy => by
    have h1 := cntB_mono (B := isF R) (k := x + 1) (n := y) (by omega)
    rw [cntB_yes hx] at h1
    omega
  rcases Nat.lt_trichotomy (firS R a) (firS R b) with h1 | h1 | h1
  · have := key _ _ ha h1; omega
  · exact h1
  · have := key _ _ hb h1; omega
theorem isF_old (h : Eqv R) {i k : Nat} (hk : k < i) (hr : R k i = true) : isF R i = false := by
  have h1 := (firS_spec h i).2.2 k hr
  unfold isF
  simp
  omega
theorem nrm_lt (h : Eqv R) {i n : Nat} (hi : i < n) : nrm R i < cntB (isF R) n := by
  have h1 := isF_fir h i
  have h2 := (firS_spec h i).1
  have h3 := cntB_mono (B := isF R) (k := firS R i + 1) (n := n) (by omega)
  rw [cntB_yes h1] at h3
  unfold nrm
  omega
theorem nrm_congr {R' : Nat → Nat → Bool} (e : ∀ a b, R a b = R' a b) : nrm R = nrm R' := by
  have : R = R' := by funext a b; exact e a b
  rw [this]
/-- the relation of a partition -/
def relP (p : Nat → Nat) : Nat → Nat → Bool := fun a b => p a == p b
theorem relP_eqv (p : Nat → Nat) : Eqv (relP p) := ⟨fun a => by simp [relP], fun a b h => by simp [relP] at *; exact h.symm, fun a b d h1 h2 => by simp [relP] at *; rw [h1, h2]⟩
/-- normed once is normed -/
theorem nrm_nrm (h : Eqv R) : nrm (relP (nrm R)) = nrm R := nrm_congr fun a b => by
  unfold relP
  cases hr : R a b
  · simp only [beq_eq_false_iff_ne]
    exact fun e => by have := (nrm_iff h).1 e; rw [hr] at this; cases this
  · rw [nrm_same h hr]; simp
end
end Go.Proofs.YtlncafhgmbhocaaGreatDoor
namespace Go.Proofs.YtlncafhgmbhocaaGreatDoor
set_option linter.unusedSimpArgs false
set_option linter.unusedVariables false
/-! ## stable partitions, refinements (plain) -/
section
variable (F T : Nat → Nat) (q : Nat → Rat) (nm n : Nat) (p : Nat → Nat)
/-- the rates of a state into a block -/
def intoQ (s b : Nat) : Rat := sumN (fun k => if F k = s ∧ p (T k) = b then q k else 0) nm
/-- equal sums into all other blocks -/
def alk (a b : Nat) : Bool := (List.range n).all fun d => d == p a || decide (intoQ F T q nm p a d = intoQ F T q nm p b d)
/-- in one block and alike -/
def rfn (a b : Nat) : Bool := p a == p b && alk F T q nm n p a b
def StaB : Prop := ∀ a b, a < n → b < n → p a = p b → alk F T q nm n p a b = true
end
/-- p is finer than r (on the first n states) -/
def Fine (n : Nat) (p r : Nat → Nat) : Prop := ∀ a b, a < n → b < n → p a = p b → r a = r b
section
variable {F T : Nat → Nat} {q : Nat → Rat} {nm n : Nat} {p r : Nat → Nat}
theorem alk_iff {a b : Nat} : alk F T q nm n p a b = true ↔ ∀ d, d < n → d ≠ p a → intoQ F T q nm p a d = intoQ F T q nm p b d := by
  unfold alk
  rw [List.all_eq_true]
  constructor
  · intro h d hd hne
    have := h d (List.mem_range.2 hd)
    simp only [Bool.or_eq_true, beq_iff_eq, decide_eq_true_eq] at this
    exact this.resolve_left hne
  · intro h d hd
    simp only [Bool.or_eq_true, beq_iff_eq, decide_eq_true_eq]
    by_cases e : d = p a
    · exact .inl e
    · exact .inr (h d (List.mem_range.1 hd) e)
theorem rfn_iff {a b : Nat} : rfn F T q nm n p a b = true ↔ p a = p b ∧ ∀ d, d < n → d ≠ p a → intoQ F T q nm p a d = intoQ F T q nm p b d := by
  unfold rfn
  rw [Bool.and_eq_true, beq_iff_eq, alk_iff]
theorem rfn_eqv : Eqv (rfn F T q nm n p) := by
  refine ⟨fun a => rfn_iff.2 ⟨rfl, fun _ _ _ => rfl⟩, fun a b h => ?_, fun a b d h1 h2 => ?_⟩
  · have h := rfn_iff.1 h
    exact rfn_iff.2 ⟨h.1.symm, fun d hd hne => (h.2 d hd (by rw [h.1]; exact hne)).symm⟩
  · have h1 := rfn_iff.1 h1
    have h2 := rfn_iff.1 h2
    exact rfn_iff.2 ⟨h1.1.trans h2.1, fun e he hne => (h1.2 e he hne).trans (h2.2 e he (by rw [← h1.1]; exact hne))⟩
/-- one round -/
def refP (F T : Nat → Nat) (q : Nat → Rat) (nm n : Nat) (p : Nat → Nat) : Nat → Nat := nrm (rfn F T q nm n p)
theorem refP_iff {a b : Nat} : refP F T q nm n p a = refP F T q nm n p b ↔ p a = p b ∧ ∀ d, d < n → d ≠ p a → intoQ F T q nm p a d = intoQ F T q nm p b d := (nrm_iff rfn_eqv).trans rfn_iff
theorem refP_fine : Fine n (refP F T q nm n p) p := fun a b _ _ h => (refP_iff.1 h).1
theorem refP_normed : nrm (relP (refP F T q nm n p)) = refP F T q nm n p := nrm_nrm rfn_eqv
/-- first states and numbers see only what lies ahead -/
theorem firS_upto {R R' : Nat → Nat → Bool} {i : Nat} (e : ∀ k, k < i → R k i = R' k i) : firS R i = firS R' i := by
  unfold firS
  have : (List.range i).find? (fun k => R k i) = (List.range i).find? (fun k => R' k i) := by
    have : ∀ l : List Nat, (∀ k ∈ l, k < i) → l.find? (fun k => R k i) = l.find? (fun k => R' k i) := by
      intro l
      induction l with
      | nil => intro _; rfl
      | cons a l ih =>
        intro hl
        rw [List.find?_cons, List.find?_cons, e a (hl a (by simp)), ih fun k hk => hl k (by simp [hk])]
    exact this _ fun k hk => List.mem_range.1 hk
  rw [this]
theorem cntB_congr {B C : Nat → Bool} : ∀ {k : Nat}, (∀ j, j < k → B j = C j) → cntB B k = cntB C k
  | 0, _ => rfl
  | k + 1, h => by
    have ih := cntB_congr (k := k) fun j hj => h j (by omega)
    have hk := h k (by omega)
    cases hb : B k
    · rw [cntB_no hb, cntB_no (hk ▸ hb), ih]
    · rw [cntB_yes hb, cntB_yes (hk ▸ hb), ih]
theorem nrm_upto {R R' : Nat → Nat → Bool} (h : Eqv R) {m : Nat} (e : ∀ a b, a < m → b < m → R a b = R' a b) {i : Nat} (hi : i < m) : nrm R i = nrm R' i := by
  have h1 : ∀ j, j < m → firS R j = firS R' j := fun j hj => firS_upto fun k hk => e k j (by omega) hj
  unfold nrm
  rw [← h1 i hi]
  have h2 := (firS_spec h i).1
  exact cntB_congr fun j hj => by unfold isF; rw [h1 j (by omega)]
theorem stable_refP (h : ∀ i, i < n → refP F T q nm n p i = p i) : StaB F T q nm n p := fun a b ha hb e => by
  rw [← h a ha, ← h b hb] at e
  exact alk_iff.2 (refP_iff.1 e).2
end
end Go.Proofs.YtlncafhgmbhocaaGreatDoor
namespace Go.Proofs.YtlncafhgmbhocaaGreatDoor
set_option linter.unusedSimpArgs false
set_option linter.unusedVariables false
/-! ## the coarsest stable partition (plain) -/
theorem cntB_imp {B C : Nat → Bool} : ∀ {k : Nat}, (∀ j, j < k → B j = true → C j = true) → cntB B k ≤ cntB C k ∧ (cntB B k = cntB C k → ∀ j, j < k → B j = C j)
  | 0, _ => ⟨Nat.le_refl _, fun _ j hj => by omega⟩
  | k + 1, h => by
    obtain ⟨h1, h2⟩ := cntB_imp (k := k) fun j hj => h j (by omega)
    have hk := h k (by omega)
    cases hb : B k <;> cases hc : C k
    · rw [cntB_no hb, cntB_no hc]
      refine ⟨h1, fun e j hj => ?_⟩
      by_cases ej : j = k
      · rw [ej, hb, hc]
      · exact h2 e j (by omega)
    · rw [cntB_no hb, cntB_yes hc]
      exact ⟨by omega, fun e => by omega⟩
    · have := hk hb; rw [hc] at this; cases this
    · rw [cntB_yes hb, cntB_yes hc]
      refine ⟨by omega, fun e j hj => ?_⟩
      by_cases ej : j = k
      · rw [ej, hb, hc]
      · exact h2 (by omega) j (by omega)
section
variable {F T : Nat → Nat} {q : Nat → Rat} {nm n : Nat} {p r : Nat → Nat} {R R' : Nat → Nat → Bool}
theorem isF_imp (h : Eqv R) (h' : Eqv R') (hi : ∀ a b, R' a b = true → R a b = true) (i : Nat) (hf : isF R i = true) : isF R' i = true := by
  obtain ⟨h1, h2, -⟩ := firS_spec h' i
  have h3 := (firS_spec h i).2.2 _ (hi _ _ h2)
  have h4 : firS R i = i := by unfold isF at hf; simpa using hf
  unfold isF
  simp
  omega
theorem same_rel (h : Eqv R) (h' : Eqv R') (hi : ∀ a b, R' a b = true → R a b = true) (he : ∀ i, i < n → isF R i = isF R' i) : ∀ a b, a < n → b < n → R a b = R' a b := by
  intro a b ha hb
  cases hr' : R' a b
  · cases hr : R a b
    · rfl
    · exfalso
      have g1 := (firS_spec h' a).1
      have g2 := (firS_spec h' b).1
      have f1 := he (firS R' a) (by omega)
      have f2 := he (firS R' b) (by omega)
      rw [isF_fir h'] at f1 f2
      have e1 : firS R (firS R' a) = firS R' a := by unfold isF at f1; simpa using f1
      have e2 : firS R (firS R' b) = firS R' b := by unfold isF at f2; simpa using f2
      have e3 : R (firS R' a) (firS R' b) = true := h.tr _ _ _ (hi _ _ (firS_spec h' a).2.1) (h.tr _ _ _ hr (h.sy _ _ (hi _ _ (firS_spec h' b).2.1)))
      have e4 := firS_same h e3
      rw [e1, e2] at e4
      have := (firS_iff h').1 e4
      rw [hr'] at this
      cases this
  · exact hi a b hr'
/-- how many blocks there are -/
def blks (n : Nat) (p : Nat → Nat) : Nat := cntB (isF (relP p)) n
theorem relP_nrm (h : Eqv R) : relP (nrm R) = R := by
  funext a b
  unfold relP
  cases hr : R a b
  · simp only [beq_eq_false_iff_ne]
    exact fun e => by have := (nrm_iff h).1 e; rw [hr] at this; cases this
  · rw [nrm_same h hr]; simp
theorem refP_grow (hp : ∀ i, i < n → nrm (relP p) i = p i) : (∀ i, i < n → refP F T q nm n p i = p i) ∨ blks n p < blks n (refP F T q nm n p) := by
  have hi : ∀ a b, rfn F T q nm n p a b = true → relP p a b = true := fun a b h => by unfold relP; rw [(rfn_iff.1 h).1]; simp
  have h1 := cntB_imp (B := isF (relP p)) (C := isF (rfn F T q nm n p)) (k := n) fun j _ hj => isF_imp (relP_eqv p) rfn_eqv hi j hj
  have h2 : blks n (refP F T q nm n p) = cntB (isF (rfn F T q nm n p)) n := by unfold blks refP; rw [relP_nrm rfn_eqv]
  rw [h2]
  by_cases e : cntB (isF (relP p)) n = cntB (isF (rfn F T q nm n p)) n
  · refine .inl fun i hlt => ?_
    rw [← hp i hlt]
    exact (nrm_upto (relP_eqv p) (same_rel (relP_eqv p) rfn_eqv hi (h1.2 e)) hlt).symm
  · exact .inr (by unfold blks; omega)
/-- after k rounds -/
def itP (F T : Nat → Nat) (q : Nat → Rat) (nm n : Nat) (p : Nat → Nat) : Nat → Nat → Nat
  | 0 => nrm (relP p)
  | k + 1 => refP F T q nm n (itP F T q nm n p k)
theorem itP_normed : ∀ k, nrm (relP (itP F T q nm n p k)) = itP F T q nm n p k
  | 0 => nrm_nrm (relP_eqv p)
  | k + 1 => refP_normed
theorem into_congr {a d : Nat} (hT : ∀ k, k < nm → T k < n) (e : ∀ s, s < n → p s = r s) : intoQ F T q nm p a d = intoQ F T q nm r a d := sumN_congr fun k hk => by rw [e _ (hT k hk)]
theorem refP_congr (hT : ∀ k, k < nm → T k < n) (e : ∀ s, s < n → p s = r s) : ∀ i, i < n → refP F T q nm n p i = refP F T q nm n r i := by
  intro i hi
  refine nrm_upto rfn_eqv (m := n) (fun a b ha hb => ?_) hi
  have h1 : rfn F T q nm n p a b = true ↔ rfn F T q nm n r a b = true := by
    rw [rfn_iff, rfn_iff, e a ha, e b hb]
    constructor
    · rintro ⟨h1, h2⟩
      exact ⟨h1, fun d hd hne => by rw [← into_congr hT e, ← into_congr hT e]; exact h2 d hd hne⟩
    · rintro ⟨h1, h2⟩
      exact ⟨h1, fun d hd hne => by rw [into_congr hT e, into_congr hT e]; exact h2 d hd hne⟩
  cases h2 : rfn F T q nm n p a b <;> cases h3 : rfn F T q nm n r a b
  · rfl
  · rw [h1.2 h3] at h2; cases h2
  · rw [h1.1 h2] at h3; cases h3
  · rfl
/-- once it stays it stays -/
theorem itP_stay (hT : ∀ k, k < nm → T k < n) {j : Nat} (h : ∀ i, i < n → itP F T q nm n p (j + 1) i = itP F T q nm n p j i) : ∀ k, j ≤ k → ∀ i, i < n → itP F T q nm n p k i = itP F T q nm n p j i
  | 0, hk, i, _ => by rw [show j = 0 by omega]
  | k + 1, hk, i, hi => by
    by_cases e : j = k + 1
    · rw [e]
    · have ih := itP_stay hT h k (by omega)
      show refP F T q nm n (itP F T q nm n p k) i = _
      rw [refP_congr hT ih i hi]
      exact h i hi
theorem blks_le : blks n p ≤ n := cntB_le
theorem blks_pos (hn : 0 < n) : 0 < blks n p := by
  have h1 := cntB_mono (B := isF (relP p)) (k := 1) (n := n) (by omega)
  have h2 : isF (relP p) 0 = true := by
    have := (firS_spec (relP_eqv p) 0).1
    unfold isF
    simp
    omega
  rw [cntB_yes h2] at h1
  unfold blks
  omega
theorem itP_ends : ∀ k, (∃ j, j < k ∧ ∀ i, i < n → itP F T q nm n p (j + 1) i = itP F T q nm n p j i) ∨ k + blks n (itP F T q nm n p 0) ≤ blks n (itP F T q nm n p k)
  | 0 => .inr (by omega)
  | k + 1 => by
    rcases itP_ends k with ⟨j, hj, h⟩ | h
    · exact .inl ⟨j, by omega, h⟩
    · rcases refP_grow (F := F) (T := T) (q := q) (nm := nm) (n := n) (p := itP F T q nm n p k) (fun i _ => by rw [itP_normed]) with h1 | h1
      · exact .inl ⟨k, by omega, h1⟩
      · exact .inr (by
          have : itP F T q nm n p (k + 1) = refP F T q nm n (itP F T q nm n p k) := rfl
          rw [this]; omega)
/-- the coarsest stable partition that is finer than p -/
def crsP (F T : Nat → Nat) (q : Nat → Rat) (nm n : Nat) (p : Nat → Nat) : Nat → Nat := itP F T q nm n p n
theorem crsP_fix (hT : ∀ k, k < nm → T k < n) (hn : 0 < n) : ∀ k, n ≤ k → ∀ i, i < n → itP F T q nm n p k i = crsP F T q nm n p i := by
  rcases itP_ends (F := F) (T := T) (q := q) (nm := nm) (n := n) (p := p) n with ⟨j, hj, h⟩ | h
  · intro k hk i hi
    unfold crsP
    rw [itP_stay hT h k (by omega) i hi, itP_stay hT h n (by omega) i hi]
  · have h1 := blks_le (n := n) (p := itP F T q nm n p n)
    have h2 := blks_pos (p := itP F T q nm n p 0) hn
    omega
/-- where the program stops -/
theorem crsP_at (hT : ∀ k, k < nm → T k < n) (hn : 0 < n) {j : Nat} (h : ∀ i, i < n → itP F T q nm n p (j + 1) i = itP F T q nm n p j i) : ∀ i, i < n → itP F T q nm n p j i = crsP F T q nm n p i := fun i hi => by
  rcases Nat.le_total j n with h1 | h1
  · exact (itP_stay hT h n h1 i hi).symm
  · exact crsP_fix hT hn j h1 i hi
theorem crsP_stable (hT : ∀ k, k < nm → T k < n) (hn : 0 < n) : StaB F T q nm n (crsP F T q nm n p) :=
  stable_refP fun i hi => crsP_fix hT hn (n + 1) (by omega) i hi
theorem itP_fine : ∀ k, Fine n (itP F T q nm n p k) p
  | 0 => fun a b _ _ h => by have := (nrm_iff (relP_eqv p)).1 h; unfold relP at this; simpa using this
  | k + 1 => fun a b ha hb h => itP_fine k a b ha hb (refP_fine a b ha hb h)
end
end Go.Proofs.YtlncafhgmbhocaaGreatDoor
namespace Go.Proofs.YtlncafhgmbhocaaGreatDoor
set_option linter.unusedSimpArgs false
set_option linter.unusedVariables false
/-! ## how a norm is made: a list of the first states (plain) -/
section
variable {R : Nat → Nat → Bool}
theorem nrm_fir {t : Nat} (hf : isF R t = true) : nrm R t = cntB (isF R) t ∧ firS R t = t := by
  have e : firS R t = t := by unfold isF at hf; simpa using hf
  exact ⟨by unfold nrm; rw [e], e⟩
theorem ixF_one (h : Eqv R) {i j : Nat} (hj : j < cntB (isF R) i) (hr : R (ixB (isF R) i j) i = true) : j = nrm R i := by
  obtain ⟨h1, h2⟩ := ixB_lt hj
  rw [← nrm_same h hr, (nrm_fir h2).1, cntB_ix hj]
theorem ixF_old (h : Eqv R) {i : Nat} (hf : isF R i = false) : nrm R i < cntB (isF R) i ∧ R (ixB (isF R) i (nrm R i)) i = true ∧ ∀ j, j < cntB (isF R) i → R (ixB (isF R) i j) i = true → j = nrm R i := by
  obtain ⟨h1, h2, -⟩ := firS_spec h i
  have h3 : firS R i ≠ i := fun e => by unfold isF at hf; rw [e] at hf; simp at hf
  have h4 := ixB_cnt (B := isF R) (n := i) (s := firS R i) (by omega) (isF_fir h i)
  refine ⟨h4.1, ?_, fun j hj hr => ixF_one h hj hr⟩
  unfold nrm
  rw [h4.2]
  exact h2
theorem ixF_new (h : Eqv R) {i : Nat} (hf : isF R i = true) : nrm R i = cntB (isF R) i ∧ ∀ j, j < cntB (isF R) i → R (ixB (isF R) i j) i = false := by
  refine ⟨(nrm_fir hf).1, fun j hj => ?_⟩
  cases hr : R (ixB (isF R) i j) i
  · rfl
  · have h1 := isF_old h (ixB_lt hj).1 hr
    rw [h1] at hf
    cases hf
end
end Go.Proofs.YtlncafhgmbhocaaGreatDoor
namespace Go.Proofs.YtlncafhgmbhocaaGreatDoor
set_option linter.unusedSimpArgs false
set_option linter.unusedVariables false
/-! ## the chain of the blocks (plain) -/
/-- the sum over a list -/
def sumL {α : Type} (f : α → Rat) : List α → Rat
  | [] => 0
  | a :: l => f a + sumL f l
section
variable {α β : Type}
theorem sumL_append (f : α → Rat) : ∀ l m : List α, sumL f (l ++ m) = sumL f l + sumL f m
  | [], m => by show _ = 0 + _; exact (Rat.zero_add _).symm
  | a :: l, m => by
    show f a + sumL f (l ++ m) = f a + sumL f l + sumL f m
    rw [sumL_append f l m, Rat.add_assoc]
theorem sumL_range (f : Nat → Rat) : ∀ n, sumL f (List.range n) = sumN f n
  | 0 => rfl
  | n + 1 => by
    rw [List.range_succ, sumL_append, sumL_range f n, sumN]
    show _ + (f n + 0) = _
    grind
theorem sumL_flat (f : β → Rat) (g : α → List β) : ∀ l : List α, sumL f (l.flatMap g) = sumL (fun a => sumL f (g a)) l
  | [] => rfl
  | a :: l => by
    rw [List.flatMap_cons, sumL_append, sumL_flat f g l]
    rfl
theorem sumL_filterMap (f : β → Rat) (g : α → Option β) : ∀ l : List α, sumL f (l.filterMap g) = sumL (fun a => match g a with | some b => f b | none => 0) l
  | [] => rfl
  | a :: l => by
    have ih := sumL_filterMap f g l
    rw [List.filterMap_cons]
    cases h : g a with
    | none =>
      show sumL f (l.filterMap g) = (match g a with | some b => f b | none => 0) + _
      rw [h, ih]
      exact (Rat.zero_add _).symm
    | some b =>
      show f b + sumL f (l.filterMap g) = (match g a with | some b => f b | none => 0) + _
      rw [h, ih]
theorem sumN_head (g : Nat → Rat) : ∀ n, sumN g (n + 1) = g 0 + sumN (fun k => g (k + 1)) n
  | 0 => by show (0 : Rat) + g 0 = g 0 + 0; grind
  | n + 1 => by
    have ih := sumN_head g n
    rw [sumN, ih]
    conv => rhs; rw [sumN]
    rw [Rat.add_assoc]
theorem sumN_list (f : α → Rat) (d : α) : ∀ l : List α, sumN (fun k => f (l.getD k d)) l.length = sumL f l
  | [] => rfl
  | a :: l => by
    have ih := sumN_list f d l
    rw [List.length_cons, sumN_head]
    show f a + sumN (fun k => f (l.getD k d)) l.length = f a + sumL f l
    rw [ih]
end
section
variable {F T : Nat → Nat} {q : Nat → Rat} {nm n : Nat} {p : Nat → Nat}
/-- the rate from a block to another one -/
def rateB (F T : Nat → Nat) (q : Nat → Rat) (nm n : Nat) (p : Nat → Nat) (a b : Nat) : Rat := intoQ F T q nm p (ixB (isF (relP p)) n a) b
/-- the moves between the m blocks, in order -/
def movB (F T : Nat → Nat) (q : Nat → Rat) (nm n : Nat) (p : Nat → Nat) (m : Nat) : List (Nat × Nat) := (List.range m).flatMap fun a => (List.range m).filterMap fun b => if a ≠ b ∧ rateB F T q nm n p a b ≠ 0 then some (a, b) else none
/-- a sum over the quotient's moves -/
theorem movB_sum (m : Nat) (g : Nat → Nat → Rat) : sumL (fun e => g e.1 e.2) (movB F T q nm n p m) = sumN (fun a => sumN (fun b => if a ≠ b ∧ rateB F T q nm n p a b ≠ 0 then g a b else 0) m) m := by
  unfold movB
  rw [sumL_flat, sumL_range]
  refine sumN_congr fun a _ => ?_
  rw [sumL_filterMap, sumL_range]
  refine sumN_congr fun b _ => ?_
  by_cases h : a ≠ b ∧ rateB F T q nm n p a b ≠ 0
  · rw [if_pos h, if_pos h]
  · rw [if_neg h, if_neg h]
theorem movB_mem {m a b : Nat} : (a, b) ∈ movB F T q nm n p m ↔ a < m ∧ b < m ∧ a ≠ b ∧ rateB F T q nm n p a b ≠ 0 := by
  unfold movB
  rw [List.mem_flatMap]
  constructor
  · rintro ⟨a', ha, hb⟩
    rw [List.mem_filterMap] at hb
    obtain ⟨b', hb1, hb2⟩ := hb
    by_cases h : a' ≠ b' ∧ rateB F T q nm n p a' b' ≠ 0
    · rw [if_pos h] at hb2
      injection hb2 with hb2
      injection hb2 with e1 e2
      subst e1 e2
      exact ⟨List.mem_range.1 ha, List.mem_range.1 hb1, h.1, h.2⟩
    · rw [if_neg h] at hb2
      cases hb2
  · rintro ⟨ha, hb, h⟩
    exact ⟨a, List.mem_range.2 ha, List.mem_filterMap.2 ⟨b, List.mem_range.2 hb, by rw [if_pos h]⟩⟩
/-- what a block sends into a set of blocks -/
theorem quo_into (m : Nat) (L : Nat → Nat) {a : Nat} (ha : a < m) (d : Nat) :
    sumL (fun e => if e.1 = a ∧ L e.2 = d then rateB F T q nm n p e.1 e.2 else 0) (movB F T q nm n p m) = sumN (fun b => if a ≠ b ∧ L b = d then rateB F T q nm n p a b else 0) m := by
  have h := movB_sum (F := F) (T := T) (q := q) (nm := nm) (n := n) (p := p) m (fun x b => if x = a ∧ L b = d then rateB F T q nm n p x b else 0)
  rw [h]
  have e : sumN (fun x => sumN (fun b => if x ≠ b ∧ rateB F T q nm n p x b ≠ 0 then (if x = a ∧ L b = d then rateB F T q nm n p x b else 0) else 0) m) m = sumN (fun x => if x = a then sumN (fun b => if a ≠ b ∧ L b = d then rateB F T q nm n p a b else 0) m else 0) m := sumN_congr fun x _ => by
    by_cases hx : x = a
    · rw [if_pos hx, hx]
      refine sumN_congr fun b _ => ?_
      by_cases h1 : a ≠ b
      · by_cases h2 : L b = d
        · by_cases h3 : rateB F T q nm n p a b ≠ 0
          · rw [if_pos ⟨h1, h3⟩, if_pos ⟨rfl, h2⟩, if_pos ⟨h1, h2⟩]
          · rw [if_neg fun h => h3 h.2, if_pos ⟨h1, h2⟩]
            exact (Classical.not_not.1 h3).symm
        · rw [if_neg (c := a ≠ b ∧ L b = d) fun h => h2 h.2]
          split
          · rw [if_neg fun h => h2 h.2]
          · rfl
      · rw [if_neg fun h => h1 h.1, if_neg fun h => h1 h.1]
    · rw [if_neg hx]
      exact sumN_nil fun b _ => by
        split
        · rw [if_neg fun h => hx h.1]
        · rfl
  rw [e, sumN_pick, if_pos ha]
end
end Go.Proofs.YtlncafhgmbhocaaGreatDoor
namespace Go.Proofs.YtlncafhgmbhocaaGreatDoor
set_option linter.unusedSimpArgs false
set_option linter.unusedVariables false
/-! ## a quotient by the coarsest partition is lumped no further (plain) -/
section
variable {F T : Nat → Nat} {q : Nat → Rat} {nm n : Nat} {p P L : Nat → Nat}
def quF (F T : Nat → Nat) (q : Nat → Rat) (nm n : Nat) (p : Nat → Nat) (m k : Nat) : Nat := ((movB F T q nm n p m).getD k (0, 0)).1
def quT (F T : Nat → Nat) (q : Nat → Rat) (nm n : Nat) (p : Nat → Nat) (m k : Nat) : Nat := ((movB F T q nm n p m).getD k (0, 0)).2
def quQ (F T : Nat → Nat) (q : Nat → Rat) (nm n : Nat) (p : Nat → Nat) (m k : Nat) : Rat := rateB F T q nm n p (quF F T q nm n p m k) (quT F T q nm n p m k)
def quN (F T : Nat → Nat) (q : Nat → Rat) (nm n : Nat) (p : Nat → Nat) (m : Nat) : Nat := (movB F T q nm n p m).length
theorem qu_into {m a : Nat} (ha : a < m) (d : Nat) : intoQ (quF F T q nm n p m) (quT F T q nm n p m) (quQ F T q nm n p m) (quN F T q nm n p m) L a d = sumN (fun b => if a ≠ b ∧ L b = d then rateB F T q nm n p a b else 0) m := by
  rw [← quo_into m L ha d, ← sumN_list _ (0, 0)]
  rfl
/-- the sums over a coarser partition, by the blocks of a finer one -/
theorem into_sum (hT : ∀ k, k < nm → T k < n) {m : Nat} (hP : ∀ s, s < n → P s < m) (s d : Nat) : intoQ F T q nm (fun s => L (P s)) s d = sumN (fun b => if L b = d then intoQ F T q nm P s b else 0) m := by
  have e : sumN (fun b => if L b = d then intoQ F T q nm P s b else 0) m = sumN (fun b => sumN (fun k => if F k = s ∧ P (T k) = b ∧ L b = d then q k else 0) nm) m := sumN_congr fun b _ => by
    by_cases h : L b = d
    · rw [if_pos h]
      refine sumN_congr fun k _ => ?_
      by_cases h2 : F k = s ∧ P (T k) = b
      · rw [if_pos h2, if_pos ⟨h2.1, h2.2, h⟩]
      · rw [if_neg h2, if_neg fun h3 => h2 ⟨h3.1, h3.2.1⟩]
    · rw [if_neg h]
      exact (sumN_nil fun k _ => by rw [if_neg fun h3 => h h3.2.2]).symm
  rw [e, sumN_swap]
  refine sumN_congr fun k hk => ?_
  have e2 : sumN (fun b => if F k = s ∧ P (T k) = b ∧ L b = d then q k else 0) m = sumN (fun b => if b = P (T k) then (if F k = s ∧ L (P (T k)) = d then q k else 0) else 0) m := sumN_congr fun b _ => by
    by_cases h1 : b = P (T k)
    · rw [if_pos h1]
      by_cases h2 : F k = s ∧ L (P (T k)) = d
      · rw [if_pos h2, if_pos ⟨h2.1, h1.symm, by rw [h1]; exact h2.2⟩]
      · rw [if_neg h2, if_neg fun h3 => h2 ⟨h3.1, by rw [h3.2.1]; exact h3.2.2⟩]
    · rw [if_neg h1, if_neg fun h3 => h1 h3.2.1.symm]
  rw [e2, sumN_pick, if_pos (hP _ (hT k hk))]
/-- a stable partition's rates are those of each of its states -/
theorem rate_of (hs : StaB F T q nm n P) (hb : ∀ a, a < blks n P → ixB (isF (relP P)) n a < n ∧ P (ixB (isF (relP P)) n a) = a) {s b : Nat} (hn : s < n) (hm : P s < blks n P) (hbn : b < n) (hne : b ≠ P s) : rateB F T q nm n P (P s) b = intoQ F T q nm P s b := by
  obtain ⟨h1, h2⟩ := hb _ hm
  exact alk_iff.1 (hs _ s h1 hn h2) b hbn (by rw [h2]; exact hne)
theorem blk_first (hp : ∀ i, nrm (relP P) i = P i) : ∀ a, a < blks n P → ixB (isF (relP P)) n a < n ∧ P (ixB (isF (relP P)) n a) = a := fun a ha => by
  obtain ⟨h1, h2⟩ := ixB_lt ha
  refine ⟨h1, ?_⟩
  rw [← hp, (nrm_fir h2).1]
  exact cntB_ix ha
theorem blk_lt (hp : ∀ i, nrm (relP P) i = P i) {s : Nat} (hs : s < n) : P s < blks n P := by
  rw [← hp]
  exact nrm_lt (relP_eqv P) hs
end
end Go.Proofs.YtlncafhgmbhocaaGreatDoor
namespace Go.Proofs.YtlncafhgmbhocaaGreatDoor
set_option linter.unusedSimpArgs false
set_option linter.unusedVariables false
/-! ## stationary distributions (plain) -/
section
variable {F T : Nat → Nat} {q x y : Nat → Rat} {nm n a : Nat}
/-- what comes into a state less what goes out, by one move -/
def netT (F T : Nat → Nat) (q x : Nat → Rat) (i k : Nat) : Rat := (if T k = i then x (F k) * q k else 0) - (if F k = i then x (F k) * q k else 0)
def netS (F T : Nat → Nat) (q x : Nat → Rat) (nm i : Nat) : Rat := sumN (netT F T q x i) nm
theorem net_sum (hF : ∀ k, k < nm → F k < n ∧ T k < n) (w : Nat → Rat) : sumN (fun i => w i * netS F T q x nm i) n = sumN (fun k => x (F k) * q k * (w (T k) - w (F k))) nm := by
  have e1 : sumN (fun i => w i * netS F T q x nm i) n = sumN (fun i => sumN (fun k => w i * netT F T q x i k) nm) n := by
    refine sumN_congr fun i _ => ?_
    unfold netS
    rw [sumN_smul]
  rw [e1, sumN_swap]
  refine sumN_congr fun k hk => ?_
  obtain ⟨m1, m2⟩ := hF k hk
  have e2 : ∀ i, w i * netT F T q x i k = (if i = T k then x (F k) * q k * w i else 0) - (if i = F k then x (F k) * q k * w i else 0) := fun i => by
    unfold netT
    by_cases h1 : T k = i
    · by_cases h2 : F k = i
      · rw [if_pos h1, if_pos h2, if_pos h1.symm, if_pos h2.symm]; grind
      · rw [if_pos h1, if_neg h2, if_pos h1.symm, if_neg (fun e => h2 e.symm)]; grind
    · by_cases h2 : F k = i
      · rw [if_neg h1, if_pos h2, if_neg (fun e => h1 e.symm), if_pos h2.symm]; grind
      · rw [if_neg h1, if_neg h2, if_neg (fun e => h1 e.symm), if_neg (fun e => h2 e.symm)]; grind
  rw [sumN_congr fun i _ => e2 i, sumN_sub, sumN_pick, sumN_pick, if_pos m2, if_pos m1]
  grind
end
section
variable {F T : Nat → Nat} {q x : Nat → Rat} {nm n a : Nat}
end
end Go.Proofs.YtlncafhgmbhocaaGreatDoor
