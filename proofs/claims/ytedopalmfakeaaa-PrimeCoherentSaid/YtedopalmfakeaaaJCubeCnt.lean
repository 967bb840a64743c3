/- Contracts of functions and lemmas, used by the proofs of the given statements. No condition beyond those that each lemma names. -/
import Derived.Test.YtedopalmfakeaaaCubeDef
import Derived.Test.YtedopalmfakeaaaRowB
namespace Go.Proofs.Ytedopalmfakeaaa
set_option linter.unusedVariables false
set_option linter.unusedSimpArgs false

/-! ## plain laws: counting states -/
/-- how many of the states that have only events of S below k meet p -/
def cnt : Nat → Nat → (Nat → Bool) → Nat
  | 0, _, p => if p 0 then 1 else 0
  | k + 1, S, p => if S.testBit k then cnt k S p + cnt k S (fun s => p (s ||| 2 ^ k)) else cnt k S p
theorem cnt_congr_S {k S S' : Nat} (h : ∀ i, i < k → S.testBit i = S'.testBit i) : ∀ p, cnt k S p = cnt k S' p := by
  induction k with
  | zero => intro p; rfl
  | succ k ih =>
    intro p
    have ih' := ih fun i hi => h i (by omega)
    simp only [cnt]
    rw [h k (by omega), ih', ih']
theorem cnt_split {k S j : Nat} (hj : j < k) (hS : S.testBit j = true) : ∀ p, cnt k S p = cnt k (ndiff S (2 ^ j)) p + cnt k (ndiff S (2 ^ j)) (fun s => p (s ||| 2 ^ j)) := by
  induction k with
  | zero => omega
  | succ k ih =>
    intro p
    by_cases hjk : j = k
    · subst hjk
      have e : (ndiff S (2 ^ j)).testBit j = false := by rw [testBit_ndiff]; simp
      have hc : ∀ i, i < j → S.testBit i = (ndiff S (2 ^ j)).testBit i := by
        intro i hi
        rw [testBit_ndiff, Nat.testBit_two_pow]
        have : j ≠ i := by omega
        simp [this]
      simp only [cnt, hS, e, if_true]
      rw [cnt_congr_S hc, cnt_congr_S hc]
      simp
    · have hlt : j < k := by omega
      have e : (ndiff S (2 ^ j)).testBit k = S.testBit k := by
        rw [testBit_ndiff, Nat.testBit_two_pow]
        simp [hjk]
      simp only [cnt, e]
      split
      · rw [ih hlt, ih hlt]
        have : (fun s => p (s ||| 2 ^ j ||| 2 ^ k)) = (fun s => p (s ||| 2 ^ k ||| 2 ^ j)) := by
          funext s
          rw [Nat.or_assoc, Nat.or_comm (2 ^ j), ← Nat.or_assoc]
        rw [this]
        omega
      · exact ih hlt p
/-- the states at hand: only events of S, below k -/
def isSt (k S s : Nat) : Prop := ∀ i, s.testBit i = true → i < k ∧ S.testBit i = true
theorem isSt_zero (k S : Nat) : isSt k S 0 := by intro i h; simp at h
theorem isSt_or {k S s : Nat} (h : isSt k S s) (hS : S.testBit k = true) : isSt (k + 1) S (s ||| 2 ^ k) := by
  intro i hi
  rw [Nat.testBit_or, Nat.testBit_two_pow] at hi
  by_cases hk : k = i
  · subst hk; exact ⟨by omega, hS⟩
  · simp [hk] at hi
    exact ⟨by have := (h i hi).1; omega, (h i hi).2⟩
theorem isSt_succ {k S s : Nat} (h : isSt k S s) : isSt (k + 1) S s := fun i hi => ⟨by have := (h i hi).1; omega, (h i hi).2⟩
theorem cnt_congr {k S : Nat} {p q : Nat → Bool} (h : ∀ s, isSt k S s → p s = q s) : cnt k S p = cnt k S q := by
  induction k generalizing p q with
  | zero => simp only [cnt]; rw [h 0 (isSt_zero _ _)]
  | succ k ih =>
    simp only [cnt]
    split
    · rename_i hS
      rw [ih fun s hs => h s (isSt_succ hs), ih fun s hs => h _ (isSt_or hs hS)]
    · exact ih fun s hs => h s (isSt_succ hs)
theorem cnt_true {k S : Nat} : cnt k S (fun _ => true) = 2 ^ pop k S := by
  induction k with
  | zero => rfl
  | succ k ih =>
    simp only [cnt, ih]
    have e : pop (k + 1) S = pop k S + (if S.testBit k then 1 else 0) := by
      rw [pop_add k 1 S]
      congr 1
      simp only [pop]
      rw [Nat.testBit_eq_decide_div_mod_eq]
      by_cases h : S / 2 ^ k % 2 = 1
      · simp [h]
      · have : S / 2 ^ k % 2 = 0 := by omega
        simp [this]
    rw [e]
    split
    · rw [Nat.pow_succ]; omega
    · rfl
theorem cnt_le {k S : Nat} (p : Nat → Bool) : cnt k S p ≤ 2 ^ pop k S := by
  rw [← cnt_true]
  induction k generalizing p with
  | zero => simp only [cnt]; split <;> simp
  | succ k ih =>
    simp only [cnt]
    split
    · exact Nat.add_le_add (ih _) (ih _)
    · exact ih _
theorem cnt_full {k S : Nat} {p : Nat → Bool} : cnt k S p = 2 ^ pop k S ↔ ∀ s, isSt k S s → p s = true := by
  constructor
  · rw [← cnt_true]
    induction k generalizing p with
    | zero =>
      intro h s hs
      have h0 : s = 0 := by
        apply Nat.eq_of_testBit_eq
        intro i
        rw [Nat.zero_testBit]
        cases hi : s.testBit i
        · rfl
        · have := (hs i hi).1; omega
      subst h0
      simp only [cnt] at h
      split at h
      · assumption
      · simp at h
    | succ k ih =>
      intro h s hs
      simp only [cnt] at h
      split at h
      · rename_i hS
        have l1 := @cnt_le k S p
        have l2 := @cnt_le k S (fun s => p (s ||| 2 ^ k))
        rw [← cnt_true] at l1 l2
        have e1 : cnt k S p = cnt k S (fun _ => true) := by omega
        have e2 : cnt k S (fun s => p (s ||| 2 ^ k)) = cnt k S (fun _ => true) := by omega
        by_cases hk : s.testBit k = true
        · have hs' : isSt k S (ndiff s (2 ^ k)) := by
            intro i hi
            rw [testBit_ndiff, Nat.testBit_two_pow] at hi
            simp at hi
            have := hs i hi.1
            exact ⟨by omega, this.2⟩
          have := ih e2 _ hs'
          have e : ndiff s (2 ^ k) ||| 2 ^ k = s := by
            apply Nat.eq_of_testBit_eq
            intro i
            rw [Nat.testBit_or, testBit_ndiff, Nat.testBit_two_pow]
            by_cases hki : k = i
            · subst hki; simp [hk]
            · simp [hki]
          rwa [e] at this
        · refine ih e1 s fun i hi => ?_
          have := hs i hi
          refine ⟨?_, this.2⟩
          rcases Nat.lt_or_ge i k with h1 | h1
          · exact h1
          · have : i = k := by omega
            subst this
            exact absurd hi hk
      · rename_i hS
        refine ih h s fun i hi => ?_
        have := hs i hi
        refine ⟨?_, this.2⟩
        rcases Nat.lt_or_ge i k with h1 | h1
        · exact h1
        · have : i = k := by omega
          subst this
          exact absurd this.2 hS
  · intro h
    rw [← cnt_true]
    exact cnt_congr h
attribute [irreducible] cnt
end Go.Proofs.Ytedopalmfakeaaa
namespace Go.Proofs.Ytedopalmfakeaaa
open Go.RowKit
set_option linter.unusedSimpArgs false
set_option linter.unusedVariables false

abbrev erV (n : Int) : Value := .iface 58 (.int .i64 n)
theorem ok_case {P : Program} {f : FuncId} {args : Array Value} {w : World} {n : Int} {R : World → Prop} (h : Calls P f args w fun e w' => e = .returned (err n) ∧ R w') (h0 : n = 0) : Calls P f args w fun e w' => e = .returned .nilIface ∧ R w' :=
  h.mono fun e w' ⟨he, hr⟩ => ⟨by rw [he, err_0 h0], hr⟩
theorem no_case {P : Program} {f : FuncId} {args : Array Value} {w : World} {n : Int} {R : World → Prop} (h : Calls P f args w fun e w' => e = .returned (err n) ∧ R w') (h0 : n ≠ 0) : Calls P f args w fun e w' => e = .returned (erV n) ∧ R w' :=
  h.mono fun e w' ⟨he, hr⟩ => ⟨by rw [he, err_n h0], hr⟩
end Go.Proofs.Ytedopalmfakeaaa
namespace Go.Proofs.Ytedopalmfakeaaa
open Go.RowKit
set_option linter.unusedSimpArgs false
set_option linter.unusedVariables false
set_option maxRecDepth 20000
/-! ## make with room -/
theorem own_cut {w : World} {b0 g c m k : Nat} {ty : TypeId} {l : List Value} (h : w.ownsRow b0 ty 1 (.slice (some ⟨g, 0, none⟩) m c) m l) (hk : k ≤ m) : w.ownsRow b0 ty 1 (.slice (some ⟨g, 0, none⟩) k c) k (l.take k) := by
  obtain ⟨h1, h2⟩ := h
  refine ⟨by rw [List.length_take, h1]; omega, ?_⟩
  rcases h2 with ⟨e, _⟩ | ⟨g', cap, cur, e, hb, hg, hmc, hcm, hsz, ht⟩
  · injection e with e; cases e
  · injection e with e1 e2 e3
    subst e3
    refine .inr ⟨g', c, cur, by rw [e1], hb, hg, by omega, hcm, hsz, ?_⟩
    rw [← ht, List.take_take, Nat.mul_one, Nat.mul_one, Nat.min_eq_left (by omega)]
theorem wpList_makeVc {w : World} {ops : Array Oper} {rest : List Oper} {o : Oper} {a : Act} {Q : Exit → Act → World → Prop}
    (hg : o.guard = none) (l c : Operand) (hop : o.op = Op.makeSlice 102 l c)
    (b0 n m : Nat) (L C : Int) (hl : a.eval l = .int .i64 L) (hc : a.eval c = .int .i64 C) (hL : L = (n : Int)) (hC : C = (m : Int)) (hnm : n ≤ m) (hm : m ≤ 1000000) (hb : b0 ≤ w.heap.size)
    (h : ∀ w', OwV w' b0 (some ⟨w.heap.size, 0, none⟩) m n (fun _ => false) → Below w.heap.size w w' → wpList Try.prog ops Q rest (a.put o.dst (.slice (some ⟨w.heap.size, 0, none⟩) n m)) w') : wpList Try.prog ops Q (o :: rest) a w := by
  obtain ⟨i, hi, hz, hs, hby⟩ := info_parts infoV
  refine wpList_plain hg fun K hK' => ?_
  subst hL
  subst hC
  have hr := run_make (P := Try.prog) w 102 4 i (.bool false) Try.underlying102 hi hz .i64 .i64 (n : Int) (m : Int) (by omega) (by omega) (by rw [hby]; omega) (by omega)
  simp only [Int.toNat_natCast] at hr
  have h0 := World.ownsRow_lit w (e := 4) (size := 1) (madeCells (Value.cells (.bool false)) (m * i.size)) m hb (by unfold maxLen; omega) (by rw [hs]; exact size_madeCells _ _)
  have h1 := own_cut h0 hnm
  have e : (madeCells (Value.cells (.bool false)) (m * i.size)).toList.take n = bvl n (fun _ => false) := by
    rw [hs, Nat.mul_one]
    show (madeCells #[Value.bool false] m).toList.take n = _
    rw [toList_madeCells_one]
    apply List.ext_getElem (by simp [bvl]; omega)
    intro j h1 h2
    simp [bvl]
  rw [e] at h1
  unfold Oper.wp
  simp [execOp, hop, hl, hc, hr, Result.andThen]
  exact hK' _ _ (h _ h1 ((Below.refl _ _).grown (World.grownBy_alloc w _ none) (Nat.le_refl _) (by intro k hk; cases hk)))
end Go.Proofs.Ytedopalmfakeaaa
