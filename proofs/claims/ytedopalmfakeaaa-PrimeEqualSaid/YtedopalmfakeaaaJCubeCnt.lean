/- Contracts of functions and lemmas, used by the proofs of the given statements. No condition beyond those that each lemma names. -/
import Derived.Test.YtedopalmfakeaaaCubeDef
import Derived.Test.YtedopalmfakeaaaCubeW4
import Derived.Test.YtedopalmfakeaaaJBase
import Derived.Test.YtedopalmfakeaaaRowB
import Derived.Test.YtedopalmfakeaaaCmpI
import Derived.Test.YtedopalmfakeaaaCubeW2
import Derived.Deep.RegionHeld3
import Derived.Test.YtedopalmfakeaaaShelfC
namespace Go.Proofs.Ytedopalmfakeaaa
set_option linter.unusedVariables false
set_option linter.unusedSimpArgs false

/-! ## plain laws: counting states -/
/-- how many of the states that have only events of S below k meet p -/
def cnt : Nat → Nat → (Nat → Bool) → Nat
  | 0, _, p => if p 0 then 1 else 0
  | k + 1, S, p => if S.testBit k then cnt k S p + cnt k S (fun s => p (s ||| 2 ^ k)) else cnt k S p
theorem cnt_congr_S {k S S' : Nat} (h : ∀ i, i < k → S.testBit i = S'.testBit i) : ∀ p, cnt k S p = cnt k S' p := by
  induction k with
  | zero => intro p; rfl
  | succ k ih =>
    intro p
    have ih' := ih fun i hi => h i (by omega)
    simp only [cnt]
    rw [h k (by omega), ih', ih']
theorem cnt_split {k S j : Nat} (hj : j < k) (hS : S.testBit j = true) : ∀ p, cnt k S p = cnt k (ndiff S (2 ^ j)) p + cnt k (ndiff S (2 ^ j)) (fun s => p (s ||| 2 ^ j)) := by
  induction k with
  | zero => omega
  | succ k ih =>
    intro p
    by_cases hjk : j = k
    · subst hjk
      have e : (ndiff S (2 ^ j)).testBit j = false := by rw [testBit_ndiff]; simp
      have hc : ∀ i, i < j → S.testBit i = (ndiff S (2 ^ j)).testBit i := by
        intro i hi
        rw [testBit_ndiff, Nat.testBit_two_pow]
        have : j ≠ i := by omega
        simp [this]
      simp only [cnt, hS, e, if_true]
      rw [cnt_congr_S hc, cnt_congr_S hc]
      simp
    · have hlt : j < k := by omega
      have e : (ndiff S (2 ^ j)).testBit k = S.testBit k := by
        rw [testBit_ndiff, Nat.testBit_two_pow]
        simp [hjk]
      simp only [cnt, e]
      split
      · rw [ih hlt, ih hlt]
        have : (fun s => p (s ||| 2 ^ j ||| 2 ^ k)) = (fun s => p (s ||| 2 ^ k ||| 2 ^ j)) := by
          funext s
          rw [Nat.or_assoc, Nat.or_comm (2 ^ j), ← Nat.or_assoc]
        rw [this]
        omega
      · exact ih hlt p
/-- the states at hand: only events of S, below k -/
def isSt (k S s : Nat) : Prop := ∀ i, s.testBit i = true → i < k ∧ S.testBit i = true
theorem isSt_zero (k S : Nat) : isSt k S 0 := by intro i h; simp at h
theorem isSt_or {k S s : Nat} (h : isSt k S s) (hS : S.testBit k = true) : isSt (k + 1) S (s ||| 2 ^ k) := by
  intro i hi
  rw [Nat.testBit_or, Nat.testBit_two_pow] at hi
  by_cases hk : k = i
  · subst hk; exact ⟨by omega, hS⟩
  · simp [hk] at hi
    exact ⟨by have := (h i hi).1; omega, (h i hi).2⟩
theorem isSt_succ {k S s : Nat} (h : isSt k S s) : isSt (k + 1) S s := fun i hi => ⟨by have := (h i hi).1; omega, (h i hi).2⟩
theorem cnt_congr {k S : Nat} {p q : Nat → Bool} (h : ∀ s, isSt k S s → p s = q s) : cnt k S p = cnt k S q := by
  induction k generalizing p q with
  | zero => simp only [cnt]; rw [h 0 (isSt_zero _ _)]
  | succ k ih =>
    simp only [cnt]
    split
    · rename_i hS
      rw [ih fun s hs => h s (isSt_succ hs), ih fun s hs => h _ (isSt_or hs hS)]
    · exact ih fun s hs => h s (isSt_succ hs)
theorem cnt_false {k S : Nat} : cnt k S (fun _ => false) = 0 := by
  induction k with
  | zero => rfl
  | succ k ih => simp only [cnt, ih]; split <;> rfl
theorem cnt_true {k S : Nat} : cnt k S (fun _ => true) = 2 ^ pop k S := by
  induction k with
  | zero => rfl
  | succ k ih =>
    simp only [cnt, ih]
    have e : pop (k + 1) S = pop k S + (if S.testBit k then 1 else 0) := by
      rw [pop_add k 1 S]
      congr 1
      simp only [pop]
      rw [Nat.testBit_eq_decide_div_mod_eq]
      by_cases h : S / 2 ^ k % 2 = 1
      · simp [h]
      · have : S / 2 ^ k % 2 = 0 := by omega
        simp [this]
    rw [e]
    split
    · rw [Nat.pow_succ]; omega
    · rfl
theorem cnt_le {k S : Nat} (p : Nat → Bool) : cnt k S p ≤ 2 ^ pop k S := by
  rw [← cnt_true]
  induction k generalizing p with
  | zero => simp only [cnt]; split <;> simp
  | succ k ih =>
    simp only [cnt]
    split
    · exact Nat.add_le_add (ih _) (ih _)
    · exact ih _
theorem cnt_full {k S : Nat} {p : Nat → Bool} : cnt k S p = 2 ^ pop k S ↔ ∀ s, isSt k S s → p s = true := by
  constructor
  · rw [← cnt_true]
    induction k generalizing p with
    | zero =>
      intro h s hs
      have h0 : s = 0 := by
        apply Nat.eq_of_testBit_eq
        intro i
        rw [Nat.zero_testBit]
        cases hi : s.testBit i
        · rfl
        · have := (hs i hi).1; omega
      subst h0
      simp only [cnt] at h
      split at h
      · assumption
      · simp at h
    | succ k ih =>
      intro h s hs
      simp only [cnt] at h
      split at h
      · rename_i hS
        have l1 := @cnt_le k S p
        have l2 := @cnt_le k S (fun s => p (s ||| 2 ^ k))
        rw [← cnt_true] at l1 l2
        have e1 : cnt k S p = cnt k S (fun _ => true) := by omega
        have e2 : cnt k S (fun s => p (s ||| 2 ^ k)) = cnt k S (fun _ => true) := by omega
        by_cases hk : s.testBit k = true
        · have hs' : isSt k S (ndiff s (2 ^ k)) := by
            intro i hi
            rw [testBit_ndiff, Nat.testBit_two_pow] at hi
            simp at hi
            have := hs i hi.1
            exact ⟨by omega, this.2⟩
          have := ih e2 _ hs'
          have e : ndiff s (2 ^ k) ||| 2 ^ k = s := by
            apply Nat.eq_of_testBit_eq
            intro i
            rw [Nat.testBit_or, testBit_ndiff, Nat.testBit_two_pow]
            by_cases hki : k = i
            · subst hki; simp [hk]
            · simp [hki]
          rwa [e] at this
        · refine ih e1 s fun i hi => ?_
          have := hs i hi
          refine ⟨?_, this.2⟩
          rcases Nat.lt_or_ge i k with h1 | h1
          · exact h1
          · have : i = k := by omega
            subst this
            exact absurd hi hk
      · rename_i hS
        refine ih h s fun i hi => ?_
        have := hs i hi
        refine ⟨?_, this.2⟩
        rcases Nat.lt_or_ge i k with h1 | h1
        · exact h1
        · have : i = k := by omega
          subst this
          exact absurd this.2 hS
  · intro h
    rw [← cnt_true]
    exact cnt_congr h
/-- the lowest bit of a number above 0 -/
theorem low_bit (x : Nat) (h0 : 0 < x) (hx : x < 18446744073709551616) : ∃ j, x.testBit j = true ∧ x &&& (18446744073709551616 - x) = 2 ^ j := by
  have key : ∀ n x, x < n → 0 < x → ∃ j m, x = 2 ^ j * (2 * m + 1) := by
    intro n
    induction n with
    | zero => intro x h; omega
    | succ n ih =>
      intro x h h0
      rcases Nat.mod_two_eq_zero_or_one x with he | ho
      · obtain ⟨j, m, e⟩ := ih (x / 2) (by omega) (by omega)
        refine ⟨j + 1, m, ?_⟩
        rw [Nat.pow_succ, Nat.mul_comm (2 ^ j) 2, Nat.mul_assoc, ← e]
        omega
      · exact ⟨0, x / 2, by simp; omega⟩
  obtain ⟨j, m, e⟩ := key (x + 1) x (by omega) h0
  have hy : x - 1 = 2 ^ j * (2 * m) + (2 ^ j - 1) := by
    have := Nat.two_pow_pos j
    rw [e, Nat.mul_add, Nat.mul_one]
    omega
  have hlt : 2 ^ j - 1 < 2 ^ j := by have := Nat.two_pow_pos j; omega
  have tx : ∀ i, x.testBit i = if i < j then false else (2 * m + 1).testBit (i - j) := by
    intro i
    rw [e]
    have := Nat.testBit_two_pow_mul_add (i := j) (b := 0) (2 * m + 1) (Nat.two_pow_pos j) i
    simpa using this
  have ty : ∀ i, (x - 1).testBit i = if i < j then true else (2 * m).testBit (i - j) := by
    intro i
    rw [hy, Nat.testBit_two_pow_mul_add _ hlt]
    split
    · rw [Nat.testBit_two_pow_sub_one]; simpa using ‹i < j›
    · rfl
  have hj64 : j < 64 := by
    rcases Nat.lt_or_ge j 64 with h1 | h1
    · exact h1
    · have h2 : 2 ^ 64 ≤ 2 ^ j := Nat.pow_le_pow_right (by omega) h1
      have h3 : 2 ^ j ≤ x := by rw [e]; exact Nat.le_mul_of_pos_right _ (by omega)
      omega
  refine ⟨j, by rw [tx]; simp, ?_⟩
  apply Nat.eq_of_testBit_eq
  intro i
  have hs : 18446744073709551616 - x = 2 ^ 64 - (x - 1 + 1) := by omega
  rw [Nat.testBit_and, hs, Nat.testBit_two_pow_sub_succ (by omega), Nat.testBit_two_pow, ty, tx]
  by_cases h1 : i < j
  · have : j ≠ i := by omega
    simp [h1, this]
  · by_cases h2 : j = i
    · subst h2
      simp [hj64]
    · have h3 : ∃ t, i - j = t + 1 := ⟨i - j - 1, by omega⟩
      obtain ⟨t, ht⟩ := h3
      have h4 : (2 * m + 1).testBit (t + 1) = (2 * m).testBit (t + 1) := by
        rw [Nat.testBit_succ, Nat.testBit_succ]; congr 1; omega
      rw [if_neg h1, if_neg h1, ht, h4]
      simp [h2]
      exact fun h _ => h
theorem i64_lowbit (x : Nat) (h0 : 0 < x) (hx : x < 16777216) : ∃ j, j < 24 ∧ x.testBit j = true ∧ bits .and .i64 (x : Int) (-(x : Int)) = ((2 ^ j : Nat) : Int) := by
  obtain ⟨j, h1, h2⟩ := low_bit x h0 (by omega)
  have hj : j < 24 := by
    rcases Nat.lt_or_ge j 24 with h | h
    · exact h
    · have := Nat.testBit_lt_two_pow (x := x) (i := j) (Nat.lt_of_lt_of_le hx (Nat.pow_le_pow_right (n := 2) (by omega) h))
      rw [this] at h1; cases h1
  refine ⟨j, hj, h1, ?_⟩
  show IntKind.i64.wrap ((BitVec.ofInt 64 (x : Int) &&& BitVec.ofInt 64 (-(x : Int))).toNat : Int) = _
  have e : (BitVec.ofInt 64 (-(x : Int))).toNat = 18446744073709551616 - x := by
    rw [BitVec.toNat_ofInt]
    omega
  rw [BitVec.toNat_and, ofInt_i64 x (by omega), e, h2, IntKind.wrap_i64]
  have := pow_lt24 hj
  omega
attribute [irreducible] cnt
end Go.Proofs.Ytedopalmfakeaaa
namespace Go.Proofs.Ytedopalmfakeaaa
open Go.RowKit
set_option linter.unusedSimpArgs false
set_option linter.unusedVariables false
/-! ## minus -/
theorem bitp {d k : Nat} (h : d.testBit k = true) : d &&& 2 ^ k = 2 ^ k := by rw [and_pow, if_pos h]
theorem bitn {d k : Nat} (h : d.testBit k = false) : d &&& 2 ^ k = 0 := by rw [and_pow, if_neg (by simp [h])]
theorem shl_eq {k : Nat} (hk : k < 63) : wrap64 ((2 : Int) ^ k) = ((2 ^ k : Nat) : Int) := by
  have h := Nat.pow_lt_pow_right (a := 2) (by omega) hk
  have e : (2 : Int) ^ k = ((2 ^ k : Nat) : Int) := by simp
  rw [e]
  generalize 2 ^ k = p at *
  exact IntWalk.wrap64_in _ (by omega)
theorem own_set {w : World} {base : Nat} {A : Option Addr} {c : Nat} {l : List Cb} (h : OwC w base A c l) {p : Addr} (hp : p.block < base) (u : Value) : OwC (w.setCell p u) base A c l := by
  refine ⟨h.1, ?_⟩
  rcases h.2 with h1 | ⟨g, cap, cur, h1, h2, h3, h4⟩
  · exact .inl h1
  · exact .inr ⟨g, cap, cur, h1, h2, (Below.heap_setCell w p u g (by omega)).trans h3, h4⟩
end Go.Proofs.Ytedopalmfakeaaa
namespace Go.Proofs.Ytedopalmfakeaaa
open Go.RowKit
set_option linter.unusedSimpArgs false
set_option linter.unusedVariables false
/-! ## the reference's Minus -/
theorem tb0 {x y : Nat} (h : x &&& y = 0) (i : Nat) : ¬ (x.testBit i = true ∧ y.testBit i = true) := by
  intro ⟨h1, h2⟩
  have := congrArg (fun z => Nat.testBit z i) h
  simp [h1, h2] at this
end Go.Proofs.Ytedopalmfakeaaa
namespace Go.Proofs.Ytedopalmfakeaaa
open Go.RowKit
set_option linter.unusedSimpArgs false
set_option linter.unusedVariables false
/-! ## Same -/
theorem take_eq_succ {α : Type} {l m : List α} {k : Nat} (h1 : k < l.length) (h2 : k < m.length) (h : l.take k = m.take k) (he : l[k] = m[k]) : l.take (k + 1) = m.take (k + 1) := by
  rw [List.take_succ_eq_append_getElem h1, List.take_succ_eq_append_getElem h2, h, he]
/-! ## in how many cubes of a list a state is -/
def inN (l : List Cn) (s : Nat) : Nat := (l.filter fun c => hoN c s).length
theorem inN_succ (l : List Cn) (s k : Nat) (h : k < l.length) : inN (l.take (k + 1)) s = inN (l.take k) s + (if hoN l[k] s then 1 else 0) := by
  unfold inN
  rw [List.take_succ_eq_append_getElem h, List.filter_append, List.length_append]
  congr 1
  cases hh : hoN l[k] s <;> simp [hh]
theorem inN_le (l : List Cn) (s : Nat) : inN l s ≤ l.length := List.length_filter_le _ _
/-! ## both, Minus -/
end Go.Proofs.Ytedopalmfakeaaa
namespace Go.Proofs.Ytedopalmfakeaaa
set_option linter.unusedVariables false
set_option linter.unusedSimpArgs false

/-! ## plain laws: cubes and states -/
theorem zero_iff (n : Nat) : n = 0 ↔ ∀ i, n.testBit i = false := by
  constructor
  · intro h i; rw [h, Nat.zero_testBit]
  · intro h; apply Nat.eq_of_testBit_eq; intro i; rw [h, Nat.zero_testBit]
theorem hoN_iff (c : Cn) (s : Nat) : hoN c s = true ↔ ∀ i, (c.1.testBit i = true → s.testBit i = true) ∧ (c.2.testBit i = true → s.testBit i = false) := by
  unfold hoN
  rw [zero_or, Bool.and_eq_true, beq_iff_eq, beq_iff_eq, zero_iff, zero_iff]
  constructor
  · intro ⟨h1, h2⟩ i
    have a := h1 i
    have b := h2 i
    rw [testBit_ndiff] at a
    rw [Nat.testBit_and] at b
    exact ⟨fun h => by simpa [h] using a, fun h => by simpa [h] using b⟩
  · intro h
    refine ⟨fun i => ?_, fun i => ?_⟩
    · rw [testBit_ndiff]
      cases h1 : c.1.testBit i
      · rfl
      · simp [(h i).1 h1]
    · rw [Nat.testBit_and]
      cases h1 : c.2.testBit i
      · rfl
      · simp [(h i).2 h1]
theorem wiN_iff (a b : Cn) : wiN a b = true ↔ ∀ i, (b.1.testBit i = true → a.1.testBit i = true) ∧ (b.2.testBit i = true → a.2.testBit i = true) := by
  unfold wiN
  rw [zero_or, Bool.and_eq_true, beq_iff_eq, beq_iff_eq, zero_iff, zero_iff]
  constructor
  · intro ⟨h1, h2⟩ i
    have a' := h1 i
    have b' := h2 i
    rw [testBit_ndiff] at a' b'
    exact ⟨fun h => by simpa [h] using a', fun h => by simpa [h] using b'⟩
  · intro h
    refine ⟨fun i => ?_, fun i => ?_⟩
    · rw [testBit_ndiff]
      cases h1 : b.1.testBit i
      · rfl
      · simp [(h i).1 h1]
    · rw [testBit_ndiff]
      cases h1 : b.2.testBit i
      · rfl
      · simp [(h i).2 h1]
theorem apN_iff (a b : Cn) : apN a b = true ↔ ∃ i, (a.1.testBit i = true ∧ b.2.testBit i = true) ∨ (a.2.testBit i = true ∧ b.1.testBit i = true) := by
  constructor
  · intro h
    apply Classical.byContradiction
    intro hn
    have h0 : (a.1 &&& b.2 ||| a.2 &&& b.1) = 0 := by
      rw [zero_iff]
      intro i
      rw [Nat.testBit_or, Nat.testBit_and, Nat.testBit_and]
      cases h1 : a.1.testBit i <;> cases h2 : b.2.testBit i <;> cases h3 : a.2.testBit i <;> cases h4 : b.1.testBit i <;> first | rfl | exact absurd ⟨i, by simp [h1, h2, h3, h4]⟩ hn
    simp [apN, h0] at h
  · rintro ⟨i, h⟩
    apply Classical.byContradiction
    intro hn
    have h0 : (a.1 &&& b.2 ||| a.2 &&& b.1) = 0 := by simpa [apN] using hn
    have := (zero_iff _).1 h0 i
    rw [Nat.testBit_or, Nat.testBit_and, Nat.testBit_and] at this
    rcases h with ⟨h1, h2⟩ | ⟨h1, h2⟩ <;> simp [h1, h2] at this
theorem hoN_within {a b : Cn} {s : Nat} (h : wiN a b = true) (ha : hoN a s = true) : hoN b s = true := by
  rw [hoN_iff] at ha ⊢
  intro i
  have h1 := (wiN_iff a b).1 h i
  exact ⟨fun hb => (ha i).1 (h1.1 hb), fun hb => (ha i).2 (h1.2 hb)⟩
theorem hoN_join (a b : Cn) (s : Nat) : hoN (a.1 ||| b.1, a.2 ||| b.2) s = (hoN a s && hoN b s) := by
  rw [Bool.eq_iff_iff, Bool.and_eq_true, hoN_iff, hoN_iff, hoN_iff]
  constructor
  · intro h
    refine ⟨fun i => ?_, fun i => ?_⟩ <;> have := h i <;> simp only [Nat.testBit_or] at this
    · exact ⟨fun h1 => this.1 (by simp [h1]), fun h1 => this.2 (by simp [h1])⟩
    · exact ⟨fun h1 => this.1 (by simp [h1]), fun h1 => this.2 (by simp [h1])⟩
  · intro ⟨h1, h2⟩ i
    simp only [Nat.testBit_or, Bool.or_eq_true]
    exact ⟨fun h => h.elim (h1 i).1 (h2 i).1, fun h => h.elim (h1 i).2 (h2 i).2⟩
theorem hoN_pow1 (k s : Nat) : hoN (2 ^ k, 0) s = s.testBit k := by
  rw [Bool.eq_iff_iff, hoN_iff]
  constructor
  · intro h; exact (h k).1 (by simp)
  · intro h i
    simp only [Nat.testBit_two_pow, Nat.zero_testBit]
    exact ⟨fun h1 => by simp at h1; subst h1; exact h, fun h1 => by cases h1⟩
theorem hoN_pow2 (k s : Nat) : hoN (0, 2 ^ k) s = !s.testBit k := by
  rw [Bool.eq_iff_iff, hoN_iff]
  constructor
  · intro h; have := (h k).2 (by simp); simp [this]
  · intro h i
    simp only [Nat.testBit_two_pow, Nat.zero_testBit]
    exact ⟨fun h1 => (by cases h1), fun h1 => by simp at h1; subst h1; simpa using h⟩
theorem hoN_yes (x y k s : Nat) : hoN (x ||| 2 ^ k, y) s = (hoN (x, y) s && s.testBit k) := by
  have := hoN_join (x, y) (2 ^ k, 0) s
  simpa [hoN_pow1] using this
theorem hoN_no (x y k s : Nat) : hoN (x, y ||| 2 ^ k) s = (hoN (x, y) s && !s.testBit k) := by
  have := hoN_join (x, y) (0, 2 ^ k) s
  simpa [hoN_pow2] using this
theorem inN_append (l m : List Cn) (s : Nat) : inN (l ++ m) s = inN l s + inN m s := by simp [inN]
theorem inN_one (c : Cn) (s : Nat) : inN [c] s = if hoN c s then 1 else 0 := by
  unfold inN
  cases h : hoN c s <;> simp [h]
theorem inN_cons (c : Cn) (l : List Cn) (s : Nat) : inN (c :: l) s = (if hoN c s then 1 else 0) + inN l s := by
  rw [← inN_one, ← inN_append]; rfl
/-! ### minus -/
theorem lt24_bit {x i : Nat} (hx : x < 16777216) (h : x.testBit i = true) : i < 24 := by
  rcases Nat.lt_or_ge i 24 with h1 | h1
  · exact h1
  · have := Nat.testBit_lt_two_pow (x := x) (i := i) (Nat.lt_of_lt_of_le hx (Nat.pow_le_pow_right (n := 2) (by omega) h1))
    rw [this] at h; cases h
theorem dis {x y : Nat} (h : ∀ i, ¬ (x.testBit i = true ∧ y.testBit i = true)) : x &&& y = 0 := by
  rw [zero_iff]
  intro i
  rw [Nat.testBit_and]
  have := h i
  cases h1 : x.testBit i <;> cases h2 : y.testBit i <;> simp_all
theorem ok_yes {x y k : Nat} (h : okN (x, y)) (hk : k < 24) (hy : y.testBit k = false) : okN (x ||| 2 ^ k, y) := by
  refine ⟨or_lt24 h.1 (pow_lt24 hk), h.2.1, dis fun i hh => ?_⟩
  obtain ⟨h1, h2⟩ := hh
  simp only [Nat.testBit_or, Nat.testBit_two_pow, Bool.or_eq_true, decide_eq_true_eq] at h1
  rcases h1 with h1 | h1
  · exact tb0 h.2.2 i ⟨h1, h2⟩
  · subst h1
    rw [hy] at h2; cases h2
theorem ok_no {x y k : Nat} (h : okN (x, y)) (hk : k < 24) (hx : x.testBit k = false) : okN (x, y ||| 2 ^ k) := by
  refine ⟨h.1, or_lt24 h.2.1 (pow_lt24 hk), dis fun i hh => ?_⟩
  obtain ⟨h2, h1⟩ := hh
  simp only [Nat.testBit_or, Nat.testBit_two_pow, Bool.or_eq_true, decide_eq_true_eq] at h1
  rcases h1 with h1 | h1
  · exact tb0 h.2.2 i ⟨h2, h1⟩
  · subst h1
    rw [hx] at h2; cases h2
/-! ### consensus -/
theorem pop_none {f n : Nat} (hn : n < 2 ^ f) (h : pop f n = 0) : n = 0 := by
  induction f generalizing n with
  | zero => simpa using hn
  | succ f ih =>
    simp only [pop] at h
    have := ih (n := n / 2) (by rw [Nat.pow_succ] at hn; omega) (by omega)
    omega
theorem pop_single {f n : Nat} (hn : n < 2 ^ f) (h : pop f n = 1) : ∃ j, n = 2 ^ j := by
  induction f generalizing n with
  | zero => simp [pop] at h
  | succ f ih =>
    simp only [pop] at h
    have hn2 : n / 2 < 2 ^ f := by rw [Nat.pow_succ] at hn; omega
    rcases Nat.mod_two_eq_zero_or_one n with h0 | h1
    · obtain ⟨j, hj⟩ := ih hn2 (by omega)
      exact ⟨j + 1, by rw [Nat.pow_succ]; omega⟩
    · have := pop_none hn2 (by omega)
      exact ⟨0, by simp; omega⟩
theorem cons_holds {a b : Cn} (ha : okN a) (hb : okN b) (hc : csB a b = true) {s : Nat} (h : hoN (csN a b) s = true) : hoN a s = true ∨ hoN b s = true := by
  have hp : popc (unl a b) = 1 := by simpa [csB] using hc
  obtain ⟨j, hj⟩ := pop_single (f := 24) (unl_lt a b ha hb) hp
  rw [csN, if_pos hc] at h
  have hbit : ∀ i, (unl a b).testBit i = ((a.1.testBit i && b.2.testBit i) || (a.2.testBit i && b.1.testBit i)) := by
    intro i; unfold unl; rw [Nat.testBit_or, Nat.testBit_and, Nat.testBit_and]
  have hcs : ∀ i, i ≠ j → (a.1.testBit i = true ∨ b.1.testBit i = true → s.testBit i = true) ∧ (a.2.testBit i = true ∨ b.2.testBit i = true → s.testBit i = false) := by
    intro i hi
    have hu : (unl a b).testBit i = false := by rw [hj, Nat.testBit_two_pow]; simp; omega
    have := (hoN_iff _ s).1 h i
    simp only [coN, testBit_ndiff, Nat.testBit_or, hu] at this
    simpa using this
  have hjj : ((a.1.testBit j && b.2.testBit j) || (a.2.testBit j && b.1.testBit j)) = true := by
    rw [← hbit, hj]; simp
  have ea := tb0 ha.2.2 j
  have eb := tb0 hb.2.2 j
  have side : ∀ c : Cn, (∀ i, i ≠ j → (c.1.testBit i = true → s.testBit i = true) ∧ (c.2.testBit i = true → s.testBit i = false)) → (c.1.testBit j = true → s.testBit j = true) → (c.2.testBit j = true → s.testBit j = false) → hoN c s = true := by
    intro c h1 h2 h3
    rw [hoN_iff]
    intro i
    by_cases hi : i = j
    · subst hi; exact ⟨h2, h3⟩
    · exact h1 i hi
  have fa := fun i hi => (⟨fun h => (hcs i hi).1 (.inl h), fun h => (hcs i hi).2 (.inl h)⟩ : (a.1.testBit i = true → s.testBit i = true) ∧ (a.2.testBit i = true → s.testBit i = false))
  have fb := fun i hi => (⟨fun h => (hcs i hi).1 (.inr h), fun h => (hcs i hi).2 (.inr h)⟩ : (b.1.testBit i = true → s.testBit i = true) ∧ (b.2.testBit i = true → s.testBit i = false))
  cases hs : s.testBit j
  · rw [Bool.or_eq_true, Bool.and_eq_true, Bool.and_eq_true] at hjj
    rcases hjj with ⟨h1, h2⟩ | ⟨h1, h2⟩
    · exact .inr (side b fb (fun h => absurd ⟨h, h2⟩ eb) fun _ => hs)
    · exact .inl (side a fa (fun h => absurd ⟨h, h1⟩ ea) fun _ => hs)
  · rw [Bool.or_eq_true, Bool.and_eq_true, Bool.and_eq_true] at hjj
    rcases hjj with ⟨h1, h2⟩ | ⟨h1, h2⟩
    · exact .inl (side a fa (fun _ => hs) fun h => absurd ⟨h1, h⟩ ea)
    · exact .inr (side b fb (fun _ => hs) fun h => absurd ⟨h2, h⟩ eb)
theorem csN_ok {a b : Cn} (ha : okN a) (hb : okN b) : okN (csN a b) := by
  unfold csN
  split
  · refine ⟨ndiff_lt24 (or_lt24 ha.1 hb.1), ndiff_lt24 (or_lt24 ha.2.1 hb.2.1), dis fun i hh => ?_⟩
    obtain ⟨h1, h2⟩ := hh
    have ea := tb0 ha.2.2 i
    have eb := tb0 hb.2.2 i
    simp only [coN, testBit_ndiff, Nat.testBit_or, unl, Nat.testBit_and] at h1 h2
    cases h3 : a.1.testBit i <;> cases h4 : a.2.testBit i <;> cases h5 : b.1.testBit i <;> cases h6 : b.2.testBit i <;> simp [h3, h4, h5, h6] at h1 h2 ea eb
  · exact ⟨by simp, by simp, by simp⟩
end Go.Proofs.Ytedopalmfakeaaa
namespace Go.Proofs.Ytedopalmfakeaaa
open Go.RowKit
set_option linter.unusedSimpArgs false
set_option linter.unusedVariables false
/-! ## formulas in memory -/
/-- a formula, as it lies there -/
structure FrR where
  vars : Int
  nn : Nat
  kd : Nat → Int
  kk : Nat → Int
  ar : Nat → List Int
  top : Int
def zil (l : List Int) : List Value := l.map fun x => .int .i64 x
theorem zil_length (l : List Int) : (zil l).length = l.length := by simp [zil]
theorem zil_get {l : List Int} {k : Nat} (h : k < l.length) : (zil l)[k]? = some (.int .i64 l[k]) := by simp [zil, h]
abbrev fv (v : Int) (A : Option Addr) (n c : Nat) (t : Int) : Value := .agg #[.int .i64 v, .slice A n c, .int .i64 t]
def nodC (k q : Int) (A : Option Addr) (n c : Nat) : List Value := [.int .i64 k, .int .i64 q, .slice A n c]
def nodsC (f : FrR) (V : Nat → Option Addr × Nat) (n : Nat) : List Value := (List.range n).flatMap fun k => nodC (f.kd k) (f.kk k) (V k).1 (f.ar k).length (V k).2
theorem nodsC_succ (f : FrR) (V : Nat → Option Addr × Nat) (n : Nat) : nodsC f V (n + 1) = nodsC f V n ++ nodC (f.kd n) (f.kk n) (V n).1 (f.ar n).length (V n).2 := by simp [nodsC, List.range_succ]
theorem nodsC_length (f : FrR) (V : Nat → Option Addr × Nat) (n : Nat) : (nodsC f V n).length = n * 3 := by
  induction n with
  | zero => rfl
  | succ n ih => rw [nodsC_succ, List.length_append, ih]; simp [nodC]; omega
theorem nodsC_get (f : FrR) (V : Nat → Option Addr × Nat) {n k : Nat} (hk : k < n) :
    (nodsC f V n)[k * 3]? = some (.int .i64 (f.kd k)) ∧ (nodsC f V n)[k * 3 + 1]? = some (.int .i64 (f.kk k)) ∧ (nodsC f V n)[k * 3 + 2]? = some (.slice (V k).1 (f.ar k).length (V k).2) := by
  induction n with
  | zero => omega
  | succ n ih =>
    have hl := nodsC_length f V n
    rw [nodsC_succ]
    rcases Nat.lt_or_ge k n with h1 | h1
    · have := ih h1
      rw [List.getElem?_append_left (by omega), List.getElem?_append_left (by omega), List.getElem?_append_left (by omega)]
      exact this
    · have : k = n := by omega
      subst this
      rw [List.getElem?_append_right (by omega), List.getElem?_append_right (by omega), List.getElem?_append_right (by omega), hl]
      simp [nodC]
/-- a formula that is read -/
def FrI (w : World) (A : Option Addr) (f : FrR) : Prop :=
  ∃ V : Nat → Option Addr × Nat, Rds w w.heap.size 3 A f.nn (nodsC f V f.nn) ∧ ∀ k, k < f.nn → Rds w w.heap.size 1 (V k).1 (f.ar k).length (zil (f.ar k))
section
variable {w w' : World} {A : Option Addr} {f : FrR}
theorem FrI.below (h : FrI w A f) (hb : Below w.heap.size w w') : FrI w' A f := by
  obtain ⟨V, h1, h2⟩ := h
  exact ⟨V, Rds.more (Rds.below h1 hb) hb.size, fun k hk => Rds.more (Rds.below (h2 k hk) hb) hb.size⟩
theorem FrI.on {W : World} {B : Nat} (h : FrI w A f) (hb : Below B w W) (hB : w.heap.size ≤ B) : FrI W A f := h.below (hb.mono hB)
/-- node k -/
theorem FrI.at_ (h : FrI w A f) {k : Nat} (hk : k < f.nn) : ∃ b off A1 c1, A = some ⟨b, off, none⟩ ∧ b < w.heap.size ∧ w.cell? ⟨b, off + k * 3, none⟩ = some (.int .i64 (f.kd k)) ∧ w.cell? ⟨b, off + k * 3 + 1, none⟩ = some (.int .i64 (f.kk k)) ∧ w.cell? ⟨b, off + k * 3 + 2, none⟩ = some (.slice A1 (f.ar k).length c1) ∧ Rds w w.heap.size 1 A1 (f.ar k).length (zil (f.ar k)) := by
  obtain ⟨V, h1, h2⟩ := h
  obtain ⟨b, off, e, hb, hc⟩ := h1.2 (by omega)
  obtain ⟨g0, g1, g2⟩ := nodsC_get f V hk
  exact ⟨b, off, (V k).1, (V k).2, e, hb, hc _ _ g0, by rw [Nat.add_assoc]; exact hc _ _ g1, by rw [Nat.add_assoc]; exact hc _ _ g2, h2 k hk⟩
end
/-- element k of a list of ints, in a later world -/
theorem zil_at {w W : World} {B : Nat} {A : Option Addr} {l : List Int} (h : Rds w B 1 A l.length (zil l)) (hb : Below B w W) {k : Nat} (hk : k < l.length) : ∃ b off, A = some ⟨b, off, none⟩ ∧ b < B ∧ W.cell? ⟨b, off + k, none⟩ = some (.int .i64 l[k]) := by
  obtain ⟨b, off, e, hlt, hc⟩ := h.2 (by omega)
  exact ⟨b, off, e, hlt, (hb.cell (p := ⟨b, off + k, none⟩) hlt).trans (hc k _ (zil_get hk))⟩
/-! ### what is wrong with a formula -/
def argB (kd : Int) (n : Nat) : Bool := if kd = 0 then n == 0 else if kd = 1 then n == 1 else decide (1 ≤ n ∧ n ≤ 16)
def idxB (m : Int) (l : List Int) : Bool := l.all fun a => decide (0 ≤ a ∧ a < m)
/-- the last part: K -/
def kkC (kd kk : Int) (n : Nat) : Int := if kd = 0 then (if kk = 0 ∨ kk = 1 then 0 else 3) else if kd = 4 then (if 1 ≤ kk ∧ kk ≤ n then 0 else 3) else if kk = 0 then 0 else 2
def ndC (m kd kk : Int) (l : List Int) : Int :=
  if ¬ (0 ≤ kd ∧ kd ≤ 5) then 7 else if argB kd l.length = false then 11 else if idxB m l = false then 10 else kkC kd kk l.length
/-- the first error of the nodes from i on; k of them are left -/
def ndsC (f : FrR) : Nat → Nat → Int
  | _, 0 => 0
  | i, k + 1 => if ndC (f.vars + i) (f.kd i) (f.kk i) (f.ar i) = 0 then ndsC f (i + 1) k else ndC (f.vars + i) (f.kd i) (f.kk i) (f.ar i)
def topB (f : FrR) : Bool := decide (0 ≤ f.vars ∧ 0 ≤ f.top ∧ f.top < f.vars + f.nn)
def codeF (f : FrR) : Int :=
  if ¬ (0 ≤ f.vars ∧ f.vars ≤ 24) then 3 else if 128 < f.nn then 4 else if ndsC f 0 f.nn ≠ 0 then ndsC f 0 f.nn else if topB f = false then 10 else 0
theorem ndsC_zero {f : FrR} : ∀ {k i : Nat}, ndsC f i k = 0 → ∀ j, i ≤ j → j < i + k → ndC (f.vars + j) (f.kd j) (f.kk j) (f.ar j) = 0
  | 0, i, _, j, h1, h2 => by omega
  | k + 1, i, h, j, h1, h2 => by
    unfold ndsC at h
    split at h
    · rename_i h0
      rcases Nat.eq_or_lt_of_le h1 with e | e
      · subst e; exact h0
      · exact ndsC_zero h j e (by omega)
    · rename_i h0
      exact absurd h h0
/-- the formula as a plain one -/
def FrR.fr (f : FrR) : Frm where
  vars := f.vars.toNat
  nn := f.nn
  kd i := (f.kd i).toNat
  kk := f.kk
  ar i := (f.ar i).map Int.toNat
  top := f.top.toNat
/-- what a formula without an error has -/
structure FrOk (f : FrR) : Prop where
  v0 : 0 ≤ f.vars
  v1 : f.vars ≤ 24
  n1 : f.nn ≤ 128
  kd : ∀ i, i < f.nn → 0 ≤ f.kd i ∧ f.kd i ≤ 5
  ln : ∀ i, i < f.nn → argB (f.kd i) (f.ar i).length = true
  ar : ∀ i, i < f.nn → ∀ a, a ∈ f.ar i → 0 ≤ a ∧ a < f.vars + i
  kk : ∀ i, i < f.nn → kkC (f.kd i) (f.kk i) (f.ar i).length = 0
  t0 : 0 ≤ f.top
  t1 : f.top < f.vars + f.nn
theorem codeF_ok {f : FrR} (h : codeF f = 0) : FrOk f := by
  unfold codeF at h
  split at h
  · cases h
  · rename_i h1
    split at h
    · cases h
    · rename_i h2
      split at h
      · rename_i h3; exact absurd h h3
      · rename_i h3
        split at h
        · cases h
        · rename_i h4
          have h3 : ndsC f 0 f.nn = 0 := by simpa using h3
          have hn : ∀ j, j < f.nn → ndC (f.vars + j) (f.kd j) (f.kk j) (f.ar j) = 0 := fun j hj => ndsC_zero h3 j (by omega) (by omega)
          have ht : topB f = true := by simpa using h4
          unfold topB at ht
          rw [decide_eq_true_eq] at ht
          have hall : ∀ j, j < f.nn → (0 ≤ f.kd j ∧ f.kd j ≤ 5) ∧ argB (f.kd j) (f.ar j).length = true ∧ idxB (f.vars + j) (f.ar j) = true ∧ kkC (f.kd j) (f.kk j) (f.ar j).length = 0 := fun j hj => by
            have := hn j hj
            unfold ndC at this
            split at this
            · cases this
            · rename_i g1
              split at this
              · cases this
              · rename_i g2
                split at this
                · cases this
                · rename_i g3
                  exact ⟨by omega, by simpa using g2, by simpa using g3, this⟩
          exact ⟨by omega, by omega, by omega, fun i hi => (hall i hi).1, fun i hi => (hall i hi).2.1, fun i hi a ha => by
            have := (hall i hi).2.2.1
            unfold idxB at this
            have := List.all_eq_true.1 this a ha
            simpa using this, fun i hi => (hall i hi).2.2.2, by omega, by omega⟩
theorem FrOk.arlen {f : FrR} (h : FrOk f) {i : Nat} (hi : i < f.nn) : (f.ar i).length ≤ 16 := by
  have := h.ln i hi
  unfold argB at this
  split at this
  · have : (f.ar i).length = 0 := by simpa using this
    omega
  · split at this
    · have : (f.ar i).length = 1 := by simpa using this
      omega
    · simp at this; omega
theorem FrOk.fr {f : FrR} (h : FrOk f) : f.fr.Ok where
  ar i hi a ha := by
    obtain ⟨x, hx, rfl⟩ := List.mem_map.1 ha
    have := h.ar i hi x hx
    have := h.v0
    show x.toNat < f.vars.toNat + i
    omega
  top := by
    have := h.t0
    have := h.t1
    have := h.v0
    show f.top.toNat < f.vars.toNat + f.nn
    omega
end Go.Proofs.Ytedopalmfakeaaa
namespace Go.Proofs.Ytedopalmfakeaaa
open Go.RowKit
set_option linter.unusedSimpArgs false
set_option linter.unusedVariables false
set_option maxRecDepth 20000
/-! ## make with room -/
theorem own_cut {w : World} {b0 g c m k : Nat} {ty : TypeId} {l : List Value} (h : w.ownsRow b0 ty 1 (.slice (some ⟨g, 0, none⟩) m c) m l) (hk : k ≤ m) : w.ownsRow b0 ty 1 (.slice (some ⟨g, 0, none⟩) k c) k (l.take k) := by
  obtain ⟨h1, h2⟩ := h
  refine ⟨by rw [List.length_take, h1]; omega, ?_⟩
  rcases h2 with ⟨e, _⟩ | ⟨g', cap, cur, e, hb, hg, hmc, hcm, hsz, ht⟩
  · injection e with e; cases e
  · injection e with e1 e2 e3
    subst e3
    refine .inr ⟨g', c, cur, by rw [e1], hb, hg, by omega, hcm, hsz, ?_⟩
    rw [← ht, List.take_take, Nat.mul_one, Nat.mul_one, Nat.min_eq_left (by omega)]
theorem wpList_makeVc {w : World} {ops : Array Oper} {rest : List Oper} {o : Oper} {a : Act} {Q : Exit → Act → World → Prop}
    (hg : o.guard = none) (l c : Operand) (hop : o.op = Op.makeSlice 102 l c)
    (b0 n m : Nat) (L C : Int) (hl : a.eval l = .int .i64 L) (hc : a.eval c = .int .i64 C) (hL : L = (n : Int)) (hC : C = (m : Int)) (hnm : n ≤ m) (hm : m ≤ 1000000) (hb : b0 ≤ w.heap.size)
    (h : ∀ w', OwV w' b0 (some ⟨w.heap.size, 0, none⟩) m n (fun _ => false) → Below w.heap.size w w' → wpList Try.prog ops Q rest (a.put o.dst (.slice (some ⟨w.heap.size, 0, none⟩) n m)) w') : wpList Try.prog ops Q (o :: rest) a w := by
  obtain ⟨i, hi, hz, hs, hby⟩ := info_parts infoV
  refine wpList_plain hg fun K hK' => ?_
  subst hL
  subst hC
  have hr := run_make (P := Try.prog) w 102 4 i (.bool false) Try.underlying102 hi hz .i64 .i64 (n : Int) (m : Int) (by omega) (by omega) (by rw [hby]; omega) (by omega)
  simp only [Int.toNat_natCast] at hr
  have h0 := World.ownsRow_lit w (e := 4) (size := 1) (madeCells (Value.cells (.bool false)) (m * i.size)) m hb (by unfold maxLen; omega) (by rw [hs]; exact size_madeCells _ _)
  have h1 := own_cut h0 hnm
  have e : (madeCells (Value.cells (.bool false)) (m * i.size)).toList.take n = bvl n (fun _ => false) := by
    rw [hs, Nat.mul_one]
    show (madeCells #[Value.bool false] m).toList.take n = _
    rw [toList_madeCells_one]
    apply List.ext_getElem (by simp [bvl]; omega)
    intro j h1 h2
    simp [bvl]
  rw [e] at h1
  unfold Oper.wp
  simp [execOp, hop, hl, hc, hr, Result.andThen]
  exact hK' _ _ (h _ h1 ((Below.refl _ _).grown (World.grownBy_alloc w _ none) (Nat.le_refl _) (by intro k hk; cases hk)))
end Go.Proofs.Ytedopalmfakeaaa
namespace Go.Proofs.Ytedopalmfakeaaa
set_option linter.unusedVariables false
set_option linter.unusedSimpArgs false

/-! ## plain laws: counting the states of a list, covering -/
def anyN (l : List Cn) (s : Nat) : Bool := l.any fun c => hoN c s
/-- all events of a cube are among S -/
def inS (S : Nat) (c : Cn) : Prop := ∀ i, (c.1.testBit i = true ∨ c.2.testBit i = true) → S.testBit i = true
def keepB (j : Nat) (failed : Bool) (c : Cn) : Bool := if failed then !c.2.testBit j else !c.1.testBit j
def cutN (j : Nat) (c : Cn) : Cn := (ndiff c.1 (2 ^ j), ndiff c.2 (2 ^ j))
def spN (l : List Cn) (j : Nat) (failed : Bool) : List Cn := (l.filter (keepB j failed)).map (cutN j)
theorem spN_succ (l : List Cn) (j : Nat) (f : Bool) (k : Nat) (h : k < l.length) : spN (l.take (k + 1)) j f = spN (l.take k) j f ++ (if keepB j f l[k] then [cutN j l[k]] else []) := by
  unfold spN
  rw [List.take_succ_eq_append_getElem h, List.filter_append, List.map_append]
  congr 1
  cases hk : keepB j f l[k] <;> simp [hk]
theorem spN_le (l : List Cn) (j : Nat) (f : Bool) : (spN l j f).length ≤ l.length := by
  unfold spN; rw [List.length_map]; exact List.length_filter_le _ _
theorem cutN_ok {c : Cn} (h : okN c) (j : Nat) : okN (cutN j c) := by
  refine ⟨ndiff_lt24 h.1, ndiff_lt24 h.2.1, dis fun i hh => ?_⟩
  obtain ⟨h1, h2⟩ := hh
  simp only [cutN, testBit_ndiff] at h1 h2
  exact tb0 h.2.2 i ⟨by simp at h1; exact h1.1, by simp at h2; exact h2.1⟩
theorem spN_ok {l : List Cn} (h : ∀ c ∈ l, okN c) (j : Nat) (f : Bool) : ∀ c ∈ spN l j f, okN c := by
  intro c hc
  simp only [spN, List.mem_map, List.mem_filter] at hc
  obtain ⟨d, ⟨hd, _⟩, rfl⟩ := hc
  exact cutN_ok (h d hd) j
theorem spN_inS {l : List Cn} {S : Nat} (h : ∀ c ∈ l, inS S c) (j : Nat) (f : Bool) : ∀ c ∈ spN l j f, inS (ndiff S (2 ^ j)) c := by
  intro c hc
  simp only [spN, List.mem_map, List.mem_filter] at hc
  obtain ⟨d, ⟨hd, _⟩, rfl⟩ := hc
  intro i hi
  simp only [cutN, testBit_ndiff] at hi
  rw [testBit_ndiff]
  have := h d hd i
  cases h1 : (2 ^ j).testBit i
  · simp only [h1, Bool.not_false, Bool.and_true] at hi ⊢
    exact this hi
  · simp [h1] at hi
theorem cut_false (c : Cn) (j s : Nat) (hs : s.testBit j = false) : (keepB j false c && hoN (cutN j c) s) = hoN c s := by
  rw [Bool.eq_iff_iff, Bool.and_eq_true, hoN_iff, hoN_iff]
  simp only [keepB, cutN, testBit_ndiff, Nat.testBit_two_pow, Bool.false_eq_true, if_false, Bool.not_eq_true']
  constructor
  · intro ⟨h1, h2⟩ i
    by_cases hi : j = i
    · subst hi; simp [h1, hs]
    · have := h2 i; simpa [hi] using this
  · intro h
    refine ⟨?_, fun i => ?_⟩
    · cases h1 : c.1.testBit j
      · rfl
      · rw [(h j).1 h1] at hs; cases hs
    · by_cases hi : j = i
      · subst hi; simp
      · have := h i; simpa [hi] using this
theorem cut_true (c : Cn) (j s : Nat) (hs : s.testBit j = false) : (keepB j true c && hoN (cutN j c) s) = hoN c (s ||| 2 ^ j) := by
  rw [Bool.eq_iff_iff, Bool.and_eq_true, hoN_iff, hoN_iff]
  simp only [keepB, cutN, testBit_ndiff, Nat.testBit_two_pow, if_true, Bool.not_eq_true', Nat.testBit_or]
  constructor
  · intro ⟨h1, h2⟩ i
    by_cases hi : j = i
    · subst hi; simp [h1]
    · have := h2 i; simpa [hi] using this
  · intro h
    refine ⟨?_, fun i => ?_⟩
    · cases h1 : c.2.testBit j
      · rfl
      · have := (h j).2 h1; simp at this
    · by_cases hi : j = i
      · subst hi; simp
      · have := h i; simpa [hi] using this
theorem any_spN (l : List Cn) (j : Nat) (f : Bool) (s : Nat) : anyN (spN l j f) s = l.any fun c => keepB j f c && hoN (cutN j c) s := by
  unfold anyN spN
  induction l with
  | nil => rfl
  | cons c l ih =>
    cases hk : keepB j f c <;> simp [hk] at ih ⊢ <;> rw [← ih] <;> simp
theorem anyN_false {l : List Cn} {j s : Nat} (hs : s.testBit j = false) : anyN (spN l j false) s = anyN l s := by
  rw [any_spN]; unfold anyN; congr 1; funext c; exact cut_false c j s hs
theorem anyN_true {l : List Cn} {j s : Nat} (hs : s.testBit j = false) : anyN (spN l j true) s = anyN l (s ||| 2 ^ j) := by
  rw [any_spN]; unfold anyN; congr 1; funext c; exact cut_true c j s hs
theorem isSt_cut {S j s : Nat} (h : isSt 24 (ndiff S (2 ^ j)) s) : s.testBit j = false := by
  cases hs : s.testBit j
  · rfl
  · have := (h j hs).2
    rw [testBit_ndiff] at this; simp at this
/-- what count computes, one step -/
theorem cnt_step {S j : Nat} {l : List Cn} (hj : j < 24) (hS : S.testBit j = true) : cnt 24 S (anyN l) = cnt 24 (ndiff S (2 ^ j)) (anyN (spN l j false)) + cnt 24 (ndiff S (2 ^ j)) (anyN (spN l j true)) := by
  rw [cnt_split hj hS]
  congr 1
  · exact cnt_congr fun s hs => (anyN_false (isSt_cut hs)).symm
  · exact cnt_congr fun s hs => (anyN_true (isSt_cut hs)).symm
theorem popc_cut {S j : Nat} (hj : j < 24) (hS : S.testBit j = true) : popc S = popc (ndiff S (2 ^ j)) + 1 := by
  have h := cnt_split hj hS (fun _ => true)
  rw [cnt_true, cnt_true] at h
  have h2 : 2 ^ pop 24 S = 2 ^ (pop 24 (ndiff S (2 ^ j)) + 1) := by rw [Nat.pow_succ]; omega
  exact (Nat.pow_right_inj (by omega)).1 h2
theorem cnt_le24 (S : Nat) (p : Nat → Bool) : cnt 24 S p ≤ 16777216 := by
  have h1 := @cnt_le 24 S p
  have h2 : 2 ^ pop 24 S ≤ 2 ^ 24 := Nat.pow_le_pow_right (by omega) (pop_le 24 S)
  omega
theorem hoN_00 (s : Nat) : hoN (0, 0) s = true := by rw [hoN_iff]; simp
theorem anyN_of_mem {l : List Cn} {c : Cn} {s : Nat} (hc : c ∈ l) (h : hoN c s = true) : anyN l s = true := List.any_eq_true.2 ⟨c, hc, h⟩
theorem cnt_one {S : Nat} {l : List Cn} (h : ((0, 0) : Cn) ∈ l) : cnt 24 S (anyN l) = 2 ^ popc S := by
  rw [show 2 ^ popc S = 2 ^ pop 24 S from rfl, cnt_full]
  exact fun s _ => anyN_of_mem h (hoN_00 s)
/-! ### within a cube -/
/-- the events of T that a cube leaves free -/
def frT (T : Nat) (c : Cn) : Nat := ndiff T (c.1 ||| c.2)
/-- the states of c, and of T beyond, that are in a cube of the list -/
def cntC (T : Nat) (l : List Cn) (c : Cn) : Nat := cnt 24 (frT T c) fun s => anyN l (s ||| c.1)
def covB (l : List Cn) (c : Cn) : Bool := cntC 16777215 l c == 2 ^ popc (frT 16777215 c)
/-- the cubes that meet c, without its events -/
def reN (l : List Cn) (c : Cn) : List Cn := (l.filter fun d => !apN d c).map fun d => (ndiff d.1 c.1, ndiff d.2 c.2)
theorem reN_succ (l : List Cn) (c : Cn) (k : Nat) (h : k < l.length) : reN (l.take (k + 1)) c = reN (l.take k) c ++ (if apN l[k] c then [] else [(ndiff l[k].1 c.1, ndiff l[k].2 c.2)]) := by
  unfold reN
  rw [List.take_succ_eq_append_getElem h, List.filter_append, List.map_append]
  congr 1
  cases hk : apN l[k] c <;> simp [hk]
theorem reN_le (l : List Cn) (c : Cn) : (reN l c).length ≤ l.length := by
  unfold reN; rw [List.length_map]; exact List.length_filter_le _ _
theorem reN_ok {l : List Cn} {c : Cn} (h : ∀ d ∈ l, okN d) : ∀ d ∈ reN l c, okN d := by
  intro d hd
  simp only [reN, List.mem_map, List.mem_filter] at hd
  obtain ⟨e, ⟨he, _⟩, rfl⟩ := hd
  have hk := h e he
  refine ⟨ndiff_lt24 hk.1, ndiff_lt24 hk.2.1, dis fun i hh => ?_⟩
  obtain ⟨h1, h2⟩ := hh
  simp only [testBit_ndiff, Bool.and_eq_true] at h1 h2
  exact tb0 hk.2.2 i ⟨h1.1, h2.1⟩
theorem reN_inS {l : List Cn} {c : Cn} (h : ∀ d ∈ l, okN d) : ∀ d ∈ reN l c, inS (frT 16777215 c) d := by
  intro d hd
  simp only [reN, List.mem_map, List.mem_filter] at hd
  obtain ⟨e, ⟨he, ha⟩, rfl⟩ := hd
  have hk := h e he
  have hn : ¬ apN e c = true := by simpa using ha
  rw [apN_iff] at hn
  intro i hi
  have hT : i < 24 → (16777215 : Nat).testBit i = true := by
    intro hlt
    rw [show (16777215 : Nat) = 2 ^ 24 - 1 from rfl, Nat.testBit_two_pow_sub_one]; simpa using hlt
  simp only [testBit_ndiff, Bool.and_eq_true, Bool.not_eq_true'] at hi
  unfold frT
  rw [testBit_ndiff, Nat.testBit_or]
  rcases hi with ⟨h1, h2⟩ | ⟨h1, h2⟩
  · have h3 : c.2.testBit i = false := by
      cases h3 : c.2.testBit i
      · rfl
      · exact absurd ⟨i, .inl ⟨h1, h3⟩⟩ hn
    simp [hT (lt24_bit hk.1 h1), h2, h3]
  · have h3 : c.1.testBit i = false := by
      cases h3 : c.1.testBit i
      · rfl
      · exact absurd ⟨i, .inr ⟨h1, h3⟩⟩ hn
    simp [hT (lt24_bit hk.2.1 h1), h2, h3]
theorem re_holds {T : Nat} {c d : Cn} (hc : okN c) {s : Nat} (hs : isSt 24 (frT T c) s) : ((!apN d c) && hoN (ndiff d.1 c.1, ndiff d.2 c.2) s) = hoN d (s ||| c.1) := by
  have hfree : ∀ i, s.testBit i = true → c.1.testBit i = false ∧ c.2.testBit i = false := by
    intro i hi
    have := (hs i hi).2
    unfold frT at this
    rw [testBit_ndiff, Nat.testBit_or] at this
    simpa using (by simpa using this : _ ∧ _).2
  cases hp : apN d c
  · have hn : ¬ apN d c = true := by simp [hp]
    rw [apN_iff] at hn
    simp only [Bool.not_false, Bool.true_and]
    rw [Bool.eq_iff_iff, hoN_iff, hoN_iff]
    simp only [testBit_ndiff, Nat.testBit_or]
    constructor
    · intro h i
      have := h i
      refine ⟨fun h1 => ?_, fun h1 => ?_⟩
      · cases h2 : c.1.testBit i
        · simpa using this.1 (by simp [h1, h2])
        · simp
      · have h3 : c.1.testBit i = false := by
          cases h3 : c.1.testBit i
          · rfl
          · exact absurd ⟨i, .inr ⟨h1, h3⟩⟩ hn
        cases h2 : c.2.testBit i
        · simpa [h3] using this.2 (by simp [h1, h2])
        · cases h4 : s.testBit i
          · simp [h3]
          · have := (hfree i h4).2; rw [h2] at this; cases this
    · intro h i
      have := h i
      refine ⟨fun h1 => ?_, fun h1 => ?_⟩
      · simp at h1
        have := this.1 h1.1
        simpa [h1.2] using this
      · simp at h1
        have := this.2 h1.1
        simp at this
        exact this.1
  · simp only [Bool.not_true, Bool.false_and]
    obtain ⟨i, hi⟩ := (apN_iff d c).1 hp
    symm
    cases hh : hoN d (s ||| c.1)
    · rfl
    · have := (hoN_iff _ _).1 hh i
      rw [Nat.testBit_or] at this
      rcases hi with ⟨h1, h2⟩ | ⟨h1, h2⟩
      · have h3 := this.1 h1
        have h4 : c.1.testBit i = false := by
          cases h4 : c.1.testBit i
          · rfl
          · exact absurd ⟨h4, h2⟩ (tb0 hc.2.2 i)
        rw [h4, Bool.or_false] at h3
        rw [(hfree i h3).2] at h2; cases h2
      · have h3 := this.2 h1
        simp [h2] at h3
theorem any_reN (l : List Cn) (c : Cn) (s : Nat) : anyN (reN l c) s = l.any fun d => (!apN d c) && hoN (ndiff d.1 c.1, ndiff d.2 c.2) s := by
  unfold anyN reN
  induction l with
  | nil => rfl
  | cons d l ih =>
    cases hk : apN d c <;> simp [hk] at ih ⊢ <;> rw [← ih] <;> simp
theorem cnt_reN {c : Cn} (hc : okN c) (l : List Cn) : cnt 24 (frT 16777215 c) (anyN (reN l c)) = cntC 16777215 l c := by
  unfold cntC
  refine cnt_congr fun s hs => ?_
  rw [any_reN]
  unfold anyN
  congr 1
  funext d
  exact re_holds hc hs
theorem popc_or {x y : Nat} (h : ∀ i, ¬ (x.testBit i = true ∧ y.testBit i = true)) (f : Nat) : pop f (x ||| y) = pop f x + pop f y := by
  induction f generalizing x y with
  | zero => rfl
  | succ f ih =>
    simp only [pop]
    have e : (x ||| y) / 2 = x / 2 ||| y / 2 := by
      apply Nat.eq_of_testBit_eq
      intro i
      rw [← Nat.testBit_succ, Nat.testBit_or, Nat.testBit_or, Nat.testBit_succ, Nat.testBit_succ]
    have h' : ∀ i, ¬ ((x / 2).testBit i = true ∧ (y / 2).testBit i = true) := by
      intro i; rw [← Nat.testBit_succ, ← Nat.testBit_succ]; exact h (i + 1)
    rw [e, ih h']
    have h0 := h 0
    have e0 : (x ||| y) % 2 = x % 2 + y % 2 := by
      have hb := Nat.testBit_or x y 0
      simp only [Nat.testBit_zero] at hb h0
      rcases Nat.mod_two_eq_zero_or_one x with h1 | h1 <;> rcases Nat.mod_two_eq_zero_or_one y with h2 | h2 <;> rcases Nat.mod_two_eq_zero_or_one (x ||| y) with h3 | h3 <;> simp [h1, h2, h3] at hb h0 ⊢
    omega
theorem popc_fr {T : Nat} {c : Cn} (hc : okN c) (h : inS T c) : popc (frT T c) + (popc c.1 + popc c.2) = popc T := by
  unfold popc
  rw [← popc_or (fun i => tb0 hc.2.2 i)]
  rw [Nat.add_comm, ← popc_or]
  · congr 1
    apply Nat.eq_of_testBit_eq
    intro i
    unfold frT
    rw [Nat.testBit_or, testBit_ndiff, Nat.testBit_or]
    have := h i
    cases h1 : c.1.testBit i <;> cases h2 : c.2.testBit i <;> simp_all
  · intro i hh
    unfold frT at hh
    rw [testBit_ndiff] at hh
    simp [hh.1] at hh
end Go.Proofs.Ytedopalmfakeaaa
namespace Go.Proofs.Ytedopalmfakeaaa
set_option linter.unusedSimpArgs false
set_option linter.unusedVariables false
/-! ## the order of the lists of cubes (plain) -/
def szN (c : Cn) : Nat := popc c.1 + popc c.2
def ltN (a b : Cn) : Bool := decide (szN a < szN b ∨ szN a = szN b ∧ (a.1 < b.1 ∨ a.1 = b.1 ∧ a.2 < b.2))
theorem ltN_iff (a b : Cn) : ltN a b = true ↔ szN a < szN b ∨ szN a = szN b ∧ (a.1 < b.1 ∨ a.1 = b.1 ∧ a.2 < b.2) := by simp [ltN]
theorem ltN_o : LtO ltN where
  irr a := by
    cases h : ltN a a
    · rfl
    · rw [ltN_iff] at h; omega
  tr a b c h1 h2 := by rw [ltN_iff] at *; omega
  tot a b h := by
    rw [ltN_iff, ltN_iff]
    have : ¬ (a.1 = b.1 ∧ a.2 = b.2) := fun e => h (Prod.ext e.1 e.2)
    omega
theorem sub_le {x c : Nat} (h : ∀ i, x.testBit i = true → c.testBit i = true) : x ≤ c := by
  have e : x &&& c = x := by
    apply Nat.eq_of_testBit_eq
    intro i
    rw [Nat.testBit_and]
    cases hx : x.testBit i
    · rfl
    · rw [h i hx]; rfl
  rw [← e]; exact Nat.and_le_right
theorem pop_sub (f : Nat) : ∀ {x c : Nat}, (∀ i, x.testBit i = true → c.testBit i = true) → pop f x ≤ pop f c := by
  induction f with
  | zero => intro x c h; exact Nat.le_refl _
  | succ f ih =>
    intro x c h
    have h0 : x % 2 ≤ c % 2 := by
      have := h 0
      rw [Nat.testBit_zero, Nat.testBit_zero] at this
      simp at this
      omega
    have h1 : pop f (x / 2) ≤ pop f (c / 2) := ih fun i hi => by
      have := h (i + 1)
      rw [Nat.testBit_succ, Nat.testBit_succ] at this
      exact this hi
    show x % 2 + pop f (x / 2) ≤ c % 2 + pop f (c / 2)
    omega
theorem wiN_o : WiO ltN wiN where
  refl a := (wiN_iff a a).2 fun i => ⟨id, id⟩
  tr a b c h1 h2 := by
    rw [wiN_iff] at *
    exact fun i => ⟨fun h => (h1 i).1 ((h2 i).1 h), fun h => (h1 i).2 ((h2 i).2 h)⟩
  lt c x h hne := by
    rw [wiN_iff] at h
    have a1 := sub_le fun i => (h i).1
    have a2 := sub_le fun i => (h i).2
    have p1 : popc x.1 ≤ popc c.1 := pop_sub 24 fun i => (h i).1
    have p2 : popc x.2 ≤ popc c.2 := pop_sub 24 fun i => (h i).2
    have : ¬ (x.1 = c.1 ∧ x.2 = c.2) := fun e => hne (Prod.ext e.1 e.2).symm
    rw [ltN_iff]
    unfold szN
    omega
/-- three-way comparison, as package cmp does it -/
def c3 (x y : Nat) : Int := if x < y then -1 else if y < x then 1 else 0
def cfN (a b : Cn) : Int := if c3 (szN a) (szN b) ≠ 0 then c3 (szN a) (szN b) else if c3 a.1 b.1 ≠ 0 then c3 a.1 b.1 else c3 a.2 b.2
theorem cfN_lt (a b : Cn) : decide (cfN a b < 0) = ltN a b := by
  unfold ltN
  rw [decide_eq_decide]
  unfold cfN c3
  split <;> split <;> (try split) <;> (try split) <;> (try split) <;> (try split) <;> omega
end Go.Proofs.Ytedopalmfakeaaa
namespace Go.Proofs.Ytedopalmfakeaaa
set_option linter.unusedSimpArgs false
set_option linter.unusedVariables false
/-! ## primes by merging (plain) -/
/-- an implicant over the events S: true in all its states -/
def impN (S : Nat) (V : Nat → Bool) (c : Cn) : Prop := ∀ t, (∀ i, t.testBit i = true → S.testBit i = true) → hoN c t = true → V t = true
/-- the events of a cube -/
def evN (c : Cn) : Nat := c.1 ||| c.2
theorem evN_bit (c : Cn) (i : Nat) : (evN c).testBit i = (c.1.testBit i || c.2.testBit i) := Nat.testBit_or ..
theorem evN_lt {c : Cn} (h : okN c) : evN c < 16777216 := or_lt24 h.1 h.2.1
theorem cn_ext {a b : Cn} (h : ∀ i, a.1.testBit i = b.1.testBit i ∧ a.2.testBit i = b.2.testBit i) : a = b :=
  Prod.ext (Nat.eq_of_testBit_eq fun i => (h i).1) (Nat.eq_of_testBit_eq fun i => (h i).2)
theorem ok_bit {c : Cn} (h : okN c) (i : Nat) : ¬ (c.1.testBit i = true ∧ c.2.testBit i = true) := tb0 h.2.2 i
theorem cut_bit (j : Nat) (c : Cn) (i : Nat) : (cutN j c).1.testBit i = (c.1.testBit i && !decide (j = i)) ∧ (cutN j c).2.testBit i = (c.2.testBit i && !decide (j = i)) := by
  unfold cutN
  simp only [testBit_ndiff, Nat.testBit_two_pow]
  exact ⟨trivial, trivial⟩
theorem ev_cut (j : Nat) (c : Cn) : evN (cutN j c) = ndiff (evN c) (2 ^ j) := by
  apply Nat.eq_of_testBit_eq
  intro i
  rw [evN_bit, (cut_bit j c i).1, (cut_bit j c i).2, testBit_ndiff, evN_bit, Nat.testBit_two_pow]
  cases c.1.testBit i <;> cases c.2.testBit i <;> simp
theorem unl_bit (a b : Cn) (i : Nat) : (unl a b).testBit i = ((a.1.testBit i && b.2.testBit i) || (a.2.testBit i && b.1.testBit i)) := by
  unfold unl; rw [Nat.testBit_or, Nat.testBit_and, Nat.testBit_and]
/-- two cubes over the same events that differ in one: what they merge to -/
theorem mrg_shape {a b : Cn} (ha : okN a) (hb : okN b) (he : evN a = evN b) (hc : csB a b = true) :
    ∃ j, j < 24 ∧ (evN a).testBit j = true ∧ csN a b = cutN j a ∧ csN a b = cutN j b ∧ a.1.testBit j = b.2.testBit j ∧ a.2.testBit j = b.1.testBit j ∧ ∀ i, i ≠ j → a.1.testBit i = b.1.testBit i ∧ a.2.testBit i = b.2.testBit i := by
  have hp : popc (unl a b) = 1 := by simpa [csB] using hc
  obtain ⟨j, hj⟩ := pop_single (f := 24) (unl_lt a b ha hb) hp
  have hev : ∀ i, (a.1.testBit i || a.2.testBit i) = (b.1.testBit i || b.2.testBit i) := fun i => by rw [← evN_bit, ← evN_bit, he]
  have hu : ∀ i, ((a.1.testBit i && b.2.testBit i) || (a.2.testBit i && b.1.testBit i)) = decide (j = i) := fun i => by
    rw [← unl_bit, hj, Nat.testBit_two_pow]
  have h1 : ∀ i, i ≠ j → a.1.testBit i = b.1.testBit i ∧ a.2.testBit i = b.2.testBit i := fun i hi => by
    have e1 := hev i
    have e2 := hu i
    rw [decide_eq_false (fun e => hi e.symm)] at e2
    have o1 := ok_bit ha i
    have o2 := ok_bit hb i
    cases h1 : a.1.testBit i <;> cases h2 : a.2.testBit i <;> cases h3 : b.1.testBit i <;> cases h4 : b.2.testBit i <;> simp_all
  have h2 : a.1.testBit j = b.2.testBit j ∧ a.2.testBit j = b.1.testBit j ∧ (evN a).testBit j = true := by
    have e1 := hev j
    have e2 := hu j
    rw [decide_eq_true rfl] at e2
    have o1 := ok_bit ha j
    have o2 := ok_bit hb j
    rw [evN_bit]
    cases h1 : a.1.testBit j <;> cases h2 : a.2.testBit j <;> cases h3 : b.1.testBit j <;> cases h4 : b.2.testBit j <;> simp_all
  have h3 : csN a b = cutN j a := by
    rw [csN, if_pos hc]
    refine cn_ext fun i => ?_
    rw [(cut_bit j a i).1, (cut_bit j a i).2]
    unfold coN
    simp only [testBit_ndiff, Nat.testBit_or, hj, Nat.testBit_two_pow]
    by_cases hi : j = i
    · subst hi; simp
    · have := h1 i (fun e => hi e.symm)
      simp [hi, this.1, this.2]
  have h4 : cutN j a = cutN j b := by
    refine cn_ext fun i => ?_
    rw [(cut_bit j a i).1, (cut_bit j a i).2, (cut_bit j b i).1, (cut_bit j b i).2]
    by_cases hi : j = i
    · subst hi; simp
    · have := h1 i (fun e => hi e.symm)
      simp [hi, this.1, this.2]
  exact ⟨j, lt24_bit (evN_lt ha) h2.2.2, h2.2.2, h3, h3.trans h4, h2.1, h2.2.1, h1⟩
/-- the two cubes into which an event splits a cube -/
def spY (j : Nat) (c : Cn) : Cn := (c.1 ||| 2 ^ j, c.2)
def spZ (j : Nat) (c : Cn) : Cn := (c.1, c.2 ||| 2 ^ j)
theorem spY_bit (j : Nat) (c : Cn) (i : Nat) : (spY j c).1.testBit i = (c.1.testBit i || decide (j = i)) ∧ (spY j c).2.testBit i = c.2.testBit i := by
  unfold spY; simp only [Nat.testBit_or, Nat.testBit_two_pow]; exact ⟨trivial, trivial⟩
theorem spZ_bit (j : Nat) (c : Cn) (i : Nat) : (spZ j c).1.testBit i = c.1.testBit i ∧ (spZ j c).2.testBit i = (c.2.testBit i || decide (j = i)) := by
  unfold spZ; simp only [Nat.testBit_or, Nat.testBit_two_pow]; exact ⟨trivial, trivial⟩
section
variable {c : Cn} {j : Nat}
theorem sp_ev : evN (spY j c) = evN c ||| 2 ^ j ∧ evN (spZ j c) = evN c ||| 2 ^ j := by
  constructor <;> (apply Nat.eq_of_testBit_eq; intro i; rw [evN_bit, Nat.testBit_or, evN_bit, Nat.testBit_two_pow])
  · rw [(spY_bit j c i).1, (spY_bit j c i).2]; cases c.1.testBit i <;> cases c.2.testBit i <;> simp
  · rw [(spZ_bit j c i).1, (spZ_bit j c i).2]; cases c.1.testBit i <;> cases c.2.testBit i <;> simp
theorem sp_ok (h : okN c) (hj : j < 24) (hn : (evN c).testBit j = false) : okN (spY j c) ∧ okN (spZ j c) := by
  rw [evN_bit, Bool.or_eq_false_iff] at hn
  exact ⟨ok_yes h hj hn.2, ok_no h hj hn.1⟩
theorem popc_pow {j : Nat} (hj : j < 24) : popc (2 ^ j) = 1 := by
  have h1 := popc_cut (S := 2 ^ j) hj (by simp)
  have h2 : ndiff (2 ^ j) (2 ^ j) = 0 := by
    apply Nat.eq_of_testBit_eq; intro i; rw [testBit_ndiff]; simp
  rw [h2] at h1
  have : popc 0 = 0 := pop_zero 24
  omega
theorem sp_mrg (h : okN c) (hj : j < 24) (hn : (evN c).testBit j = false) : csB (spY j c) (spZ j c) = true ∧ csB (spZ j c) (spY j c) = true ∧ csN (spY j c) (spZ j c) = c ∧ csN (spZ j c) (spY j c) = c := by
  rw [evN_bit, Bool.or_eq_false_iff] at hn
  have u1 : unl (spY j c) (spZ j c) = 2 ^ j := by
    apply Nat.eq_of_testBit_eq; intro i
    rw [unl_bit, (spY_bit j c i).1, (spY_bit j c i).2, (spZ_bit j c i).1, (spZ_bit j c i).2, Nat.testBit_two_pow]
    have := ok_bit h i
    by_cases hi : j = i
    · subst hi; simp [hn.1, hn.2]
    · cases h1 : c.1.testBit i <;> cases h2 : c.2.testBit i <;> simp_all
  have u2 : unl (spZ j c) (spY j c) = 2 ^ j := by
    apply Nat.eq_of_testBit_eq; intro i
    rw [unl_bit, (spY_bit j c i).1, (spY_bit j c i).2, (spZ_bit j c i).1, (spZ_bit j c i).2, Nat.testBit_two_pow]
    have := ok_bit h i
    by_cases hi : j = i
    · subst hi; simp [hn.1, hn.2]
    · cases h1 : c.1.testBit i <;> cases h2 : c.2.testBit i <;> simp_all
  have c1 : csB (spY j c) (spZ j c) = true := by unfold csB; rw [u1, popc_pow hj]; rfl
  have c2 : csB (spZ j c) (spY j c) = true := by unfold csB; rw [u2, popc_pow hj]; rfl
  refine ⟨c1, c2, ?_, ?_⟩
  · rw [csN, if_pos c1]
    refine cn_ext fun i => ?_
    unfold coN
    simp only [testBit_ndiff, Nat.testBit_or, u1, Nat.testBit_two_pow, (spY_bit j c i).1, (spY_bit j c i).2, (spZ_bit j c i).1, (spZ_bit j c i).2]
    by_cases hi : j = i
    · subst hi; simp [hn.1, hn.2]
    · simp [hi]
  · rw [csN, if_pos c2]
    refine cn_ext fun i => ?_
    unfold coN
    simp only [testBit_ndiff, Nat.testBit_or, u2, Nat.testBit_two_pow, (spY_bit j c i).1, (spY_bit j c i).2, (spZ_bit j c i).1, (spZ_bit j c i).2]
    by_cases hi : j = i
    · subst hi; simp [hn.1, hn.2]
    · simp [hi]
end
/-! ### implicants by their number of free events -/
/-- the implicants over S in which m events of S are free -/
structure Lv (S : Nat) (V : Nat → Bool) (m : Nat) (c : Cn) : Prop where
  ok : okN c
  ins : inS S c
  imp : impN S V c
  num : popc (evN c) + m = popc S
/-- no event can be left out -/
def prmN (S : Nat) (V : Nat → Bool) (c : Cn) : Prop := okN c ∧ inS S c ∧ impN S V c ∧ ∀ j, (evN c).testBit j = true → ¬ impN S V (cutN j c)
section
variable {S m : Nat} {V : Nat → Bool} {a b c : Cn}
theorem impN_of_wi (h : wiN a b = true) (hb : impN S V b) : impN S V a := fun t ht ha => hb t ht (hoN_within h ha)
theorem Lv.cut (h : Lv S V m a) {j : Nat} (hj : (evN a).testBit j = true) (hi : impN S V (cutN j a)) : Lv S V (m + 1) (cutN j a) := by
  have h24 := lt24_bit (evN_lt h.ok) hj
  refine ⟨cutN_ok h.ok j, fun i hi => ?_, hi, ?_⟩
  · rw [(cut_bit j a i).1, (cut_bit j a i).2] at hi
    refine h.ins i ?_
    rcases hi with hi | hi
    · exact .inl (by simp at hi; exact hi.1)
    · exact .inr (by simp at hi; exact hi.1)
  · have h1 := popc_cut (S := evN a) h24 hj
    rw [ev_cut]
    have := h.num
    omega
theorem Lv.mrg (ha : Lv S V m a) (hb : Lv S V m b) (he : evN a = evN b) (hc : csB a b = true) : Lv S V (m + 1) (csN a b) := by
  obtain ⟨j, hj, hjE, e1, -, -⟩ := mrg_shape ha.ok hb.ok he hc
  have hi : impN S V (cutN j a) := fun t ht h => by
    rw [← e1] at h
    rcases cons_holds ha.ok hb.ok hc h with h | h
    · exact ha.imp t ht h
    · exact hb.imp t ht h
  rw [e1]
  exact ha.cut hjE hi
theorem Lv.split (h : Lv S V (m + 1) c) {j : Nat} (hj : j < 24) (hS : S.testBit j = true) (hn : (evN c).testBit j = false) : Lv S V m (spY j c) ∧ Lv S V m (spZ j c) := by
  have hok := sp_ok h.ok hj hn
  have hnum : popc (evN c ||| 2 ^ j) = popc (evN c) + 1 := by
    have h1 := popc_cut (S := evN c ||| 2 ^ j) hj (by simp)
    have h2 : ndiff (evN c ||| 2 ^ j) (2 ^ j) = evN c := by
      apply Nat.eq_of_testBit_eq; intro i
      rw [testBit_ndiff, Nat.testBit_or, Nat.testBit_two_pow]
      by_cases hi : j = i
      · subst hi; simp [hn]
      · simp [hi]
    rw [h2] at h1
    exact h1
  have w1 : wiN (spY j c) c = true := (wiN_iff _ _).2 fun i => by
    rw [(spY_bit j c i).1, (spY_bit j c i).2]; exact ⟨fun h => by simp [h], id⟩
  have w2 : wiN (spZ j c) c = true := (wiN_iff _ _).2 fun i => by
    rw [(spZ_bit j c i).1, (spZ_bit j c i).2]; exact ⟨id, fun h => by simp [h]⟩
  refine ⟨⟨hok.1, fun i hi => ?_, impN_of_wi w1 h.imp, ?_⟩, ⟨hok.2, fun i hi => ?_, impN_of_wi w2 h.imp, ?_⟩⟩
  · rw [(spY_bit j c i).1, (spY_bit j c i).2] at hi
    by_cases e : j = i
    · subst e; exact hS
    · simp [e] at hi; exact h.ins i hi
  · rw [sp_ev.1, hnum]; have := h.num; omega
  · rw [(spZ_bit j c i).1, (spZ_bit j c i).2] at hi
    by_cases e : j = i
    · subst e; exact hS
    · simp [e] at hi; exact h.ins i hi
  · rw [sp_ev.2, hnum]; have := h.num; omega
end
end Go.Proofs.Ytedopalmfakeaaa
namespace Go.Proofs.Ytedopalmfakeaaa
set_option linter.unusedSimpArgs false
set_option linter.unusedVariables false
/-! ## primes by merging: one round (plain) -/
/-- what two cubes merge to -/
def mrgO (a b : Cn) : Option Cn := if evN a = evN b ∧ csB a b = true then some (csN a b) else none
theorem mrgO_some {a b c : Cn} : mrgO a b = some c ↔ (evN a = evN b ∧ csB a b = true) ∧ csN a b = c := by
  unfold mrgO
  by_cases h : evN a = evN b ∧ csB a b = true
  · rw [if_pos h]; simp [h]
  · rw [if_neg h]; simp [h]
abbrev MSt := List Cn × (Nat → Bool)
def atN (l : List Cn) (i : Nat) : Cn := l.getD i (0, 0)
theorem atN_lt {l : List Cn} {i : Nat} (h : i < l.length) : atN l i = l[i] := by unfold atN; rw [List.getD_eq_getElem?_getD, List.getElem?_eq_getElem h]; rfl
theorem atN_mem {l : List Cn} {i : Nat} (h : i < l.length) : atN l i ∈ l := by rw [atN_lt h]; exact List.getElem_mem h
theorem mem_atN {l : List Cn} {c : Cn} (h : c ∈ l) : ∃ i, i < l.length ∧ atN l i = c := by
  obtain ⟨i, hi, e⟩ := List.getElem_of_mem h
  exact ⟨i, hi, by rw [atN_lt hi, e]⟩
def mPut (l : List Cn) (i k : Nat) (s : MSt) : MSt := match mrgO (atN l i) (atN l k) with
  | some c => (s.1 ++ [c], fun j => j == i || j == k || s.2 j)
  | none => s
def mRow (l : List Cn) (i : Nat) (s : MSt) : Nat → MSt
  | 0 => s
  | k + 1 => mPut l i k (mRow l i s k)
def mAll (l : List Cn) : Nat → MSt
  | 0 => ([], fun _ => false)
  | i + 1 => mRow l i (mAll l i) i
section
variable {l : List Cn} {i j : Nat} {c : Cn} {s : MSt}
theorem mRow_mem : ∀ {k}, c ∈ (mRow l i s k).1 ↔ c ∈ s.1 ∨ ∃ k', k' < k ∧ mrgO (atN l i) (atN l k') = some c
  | 0 => by simp [mRow]
  | k + 1 => by
    have ih := mRow_mem (k := k)
    have e : (∃ k', k' < k + 1 ∧ mrgO (atN l i) (atN l k') = some c) ↔ (∃ k', k' < k ∧ mrgO (atN l i) (atN l k') = some c) ∨ mrgO (atN l i) (atN l k) = some c := by
      constructor
      · rintro ⟨k', h1, h2⟩
        by_cases h3 : k' = k
        · subst h3; exact .inr h2
        · exact .inl ⟨k', by omega, h2⟩
      · rintro (⟨k', h1, h2⟩ | h)
        · exact ⟨k', by omega, h2⟩
        · exact ⟨k, by omega, h⟩
    rw [e, ← or_assoc, ← ih]
    show c ∈ (mPut l i k (mRow l i s k)).1 ↔ _
    unfold mPut
    split
    · rename_i c' h
      rw [h]
      simp only [List.mem_append, List.mem_singleton, Option.some.injEq]
      exact ⟨fun h => h.imp id Eq.symm, fun h => h.imp id Eq.symm⟩
    · rename_i h
      rw [h]
      simp
theorem mRow_use : ∀ {k}, (mRow l i s k).2 j = true ↔ s.2 j = true ∨ ∃ k', k' < k ∧ (∃ c, mrgO (atN l i) (atN l k') = some c) ∧ (j = i ∨ j = k')
  | 0 => by simp [mRow]
  | k + 1 => by
    have ih := mRow_use (k := k)
    have e : (∃ k', k' < k + 1 ∧ (∃ c, mrgO (atN l i) (atN l k') = some c) ∧ (j = i ∨ j = k')) ↔ (∃ k', k' < k ∧ (∃ c, mrgO (atN l i) (atN l k') = some c) ∧ (j = i ∨ j = k')) ∨ ((∃ c, mrgO (atN l i) (atN l k) = some c) ∧ (j = i ∨ j = k)) := by
      constructor
      · rintro ⟨k', h1, h2⟩
        by_cases h3 : k' = k
        · subst h3; exact .inr h2
        · exact .inl ⟨k', by omega, h2⟩
      · rintro (⟨k', h1, h2⟩ | h)
        · exact ⟨k', by omega, h2⟩
        · exact ⟨k, by omega, h⟩
    rw [e, ← or_assoc, ← ih]
    show (mPut l i k (mRow l i s k)).2 j = true ↔ _
    unfold mPut
    split
    · rename_i c' h
      rw [h]
      simp only [Bool.or_eq_true, beq_iff_eq]
      constructor
      · rintro ((h1 | h1) | h1)
        · exact .inr ⟨⟨c', rfl⟩, .inl h1⟩
        · exact .inr ⟨⟨c', rfl⟩, .inr h1⟩
        · exact .inl h1
      · rintro (h1 | ⟨-, h1 | h1⟩)
        · exact .inr h1
        · exact .inl (.inl h1)
        · exact .inl (.inr h1)
    · rename_i h
      rw [h]
      simp
theorem mAll_mem : ∀ {n}, c ∈ (mAll l n).1 ↔ ∃ i k, i < n ∧ k < i ∧ mrgO (atN l i) (atN l k) = some c
  | 0 => by simp [mAll]
  | n + 1 => by
    show c ∈ (mRow l n (mAll l n) n).1 ↔ _
    rw [mRow_mem, mAll_mem (n := n)]
    constructor
    · rintro (⟨i, k, h1, h2, h3⟩ | ⟨k, h2, h3⟩)
      · exact ⟨i, k, by omega, h2, h3⟩
      · exact ⟨n, k, by omega, h2, h3⟩
    · rintro ⟨i, k, h1, h2, h3⟩
      by_cases h4 : i = n
      · subst h4; exact .inr ⟨k, h2, h3⟩
      · exact .inl ⟨i, k, by omega, h2, h3⟩
theorem mAll_use : ∀ {n}, (mAll l n).2 j = true ↔ ∃ i k, i < n ∧ k < i ∧ (∃ c, mrgO (atN l i) (atN l k) = some c) ∧ (j = i ∨ j = k)
  | 0 => by simp [mAll]
  | n + 1 => by
    show (mRow l n (mAll l n) n).2 j = true ↔ _
    rw [mRow_use, mAll_use (n := n)]
    constructor
    · rintro (⟨i, k, h1, h2, h3⟩ | ⟨k, h2, h3⟩)
      · exact ⟨i, k, by omega, h2, h3⟩
      · exact ⟨n, k, by omega, h2, h3⟩
    · rintro ⟨i, k, h1, h2, h3⟩
      by_cases h4 : i = n
      · subst h4; exact .inr ⟨k, h2, h3⟩
      · exact .inl ⟨i, k, by omega, h2, h3⟩
end
section
variable {S m : Nat} {V : Nat → Bool} {l : List Cn} {c : Cn}
/-- some event is free -/
theorem free_event {x S : Nat} (hS : S < 16777216) (hs : ∀ i, x.testBit i = true → S.testBit i = true) (hp : popc x < popc S) : ∃ j, j < 24 ∧ S.testBit j = true ∧ x.testBit j = false := by
  refine Classical.byContradiction fun hn => ?_
  have e : x = S := by
    apply Nat.eq_of_testBit_eq
    intro i
    cases h1 : x.testBit i <;> cases h2 : S.testBit i
    · rfl
    · exact absurd ⟨i, lt24_bit hS h2, h2, h1⟩ hn
    · rw [hs i h1] at h2; cases h2
    · rfl
  rw [e] at hp
  omega
theorem ev_ins (h : inS S c) : ∀ i, (evN c).testBit i = true → S.testBit i = true := fun i hi => by
  rw [evN_bit, Bool.or_eq_true] at hi
  exact h i hi
theorem sp_ne {j : Nat} (hn : (evN c).testBit j = false) : spY j c ≠ spZ j c := fun e => by
  have h1 : (spY j c).1.testBit j = (spZ j c).1.testBit j := by rw [e]
  rw [(spY_bit j c j).1, (spZ_bit j c j).1] at h1
  rw [evN_bit, Bool.or_eq_false_iff] at hn
  simp [hn.1] at h1
theorem sp_back {a : Cn} (ha : okN a) {j : Nat} (hj : (evN a).testBit j = true) : a = spY j (cutN j a) ∨ a = spZ j (cutN j a) := by
  rw [evN_bit, Bool.or_eq_true] at hj
  have ho := ok_bit ha j
  rcases hj with hj | hj
  · left
    refine cn_ext fun i => ?_
    rw [(spY_bit j _ i).1, (spY_bit j _ i).2, (cut_bit j a i).1, (cut_bit j a i).2]
    by_cases e : j = i
    · subst e
      have h2 : a.2.testBit j = false := by cases h : a.2.testBit j; rfl; exact absurd ⟨hj, h⟩ ho
      simp [hj, h2]
    · simp [e]
  · right
    refine cn_ext fun i => ?_
    rw [(spZ_bit j _ i).1, (spZ_bit j _ i).2, (cut_bit j a i).1, (cut_bit j a i).2]
    by_cases e : j = i
    · subst e
      have h2 : a.1.testBit j = false := by cases h : a.1.testBit j; rfl; exact absurd ⟨h, hj⟩ ho
      simp [hj, h2]
    · simp [e]
/-- the pair that a cube of the next level splits into, in the list -/
theorem pair_at (hl : ∀ c, c ∈ l ↔ Lv S V m c) (hc : Lv S V (m + 1) c) {j : Nat} (hj : j < 24) (hS : S.testBit j = true) (hn : (evN c).testBit j = false) :
    ∃ p q, p < l.length ∧ q < l.length ∧ p ≠ q ∧ atN l p = spY j c ∧ atN l q = spZ j c ∧ mrgO (atN l p) (atN l q) = some c ∧ mrgO (atN l q) (atN l p) = some c := by
  obtain ⟨h1, h2⟩ := hc.split hj hS hn
  obtain ⟨p, hp, e1⟩ := mem_atN ((hl _).2 h1)
  obtain ⟨q, hq, e2⟩ := mem_atN ((hl _).2 h2)
  obtain ⟨m1, m2, m3, m4⟩ := sp_mrg hc.ok hj hn
  refine ⟨p, q, hp, hq, fun e => ?_, e1, e2, ?_, ?_⟩
  · subst e; exact sp_ne hn (e1.symm.trans e2)
  · rw [e1, e2]; exact mrgO_some.2 ⟨⟨by rw [sp_ev.1, sp_ev.2], m1⟩, m3⟩
  · rw [e1, e2]; exact mrgO_some.2 ⟨⟨by rw [sp_ev.1, sp_ev.2], m2⟩, m4⟩
theorem mAll_level (hS : S < 16777216) (hl : ∀ c, c ∈ l ↔ Lv S V m c) : c ∈ (mAll l l.length).1 ↔ Lv S V (m + 1) c := by
  rw [mAll_mem]
  constructor
  · rintro ⟨i, k, h1, h2, h3⟩
    obtain ⟨⟨g1, g2⟩, g3⟩ := mrgO_some.1 h3
    rw [← g3]
    exact Lv.mrg ((hl _).1 (atN_mem h1)) ((hl _).1 (atN_mem (by omega))) g1 g2
  · intro hc
    obtain ⟨j, hj, hjS, hjn⟩ := free_event hS (ev_ins hc.ins) (by have := hc.num; omega)
    obtain ⟨p, q, hp, hq, hne, -, -, e1, e2⟩ := pair_at hl hc hj hjS hjn
    rcases Nat.lt_or_gt_of_ne hne with h | h
    · exact ⟨q, p, hq, h, e2⟩
    · exact ⟨p, q, hp, h, e1⟩
theorem Lv.prm_iff {a : Cn} (h : Lv S V m a) : ¬ prmN S V a ↔ ∃ j, (evN a).testBit j = true ∧ impN S V (cutN j a) := by
  unfold prmN
  constructor
  · intro hn
    refine Classical.byContradiction fun hx => hn ⟨h.ok, h.ins, h.imp, fun j hj hi => hx ⟨j, hj, hi⟩⟩
  · rintro ⟨j, hj, hi⟩ ⟨-, -, -, h9⟩
    exact h9 j hj hi
theorem mAll_used (hS : S < 16777216) (hl : ∀ c, c ∈ l ↔ Lv S V m c) {j : Nat} (hj : j < l.length) : (mAll l l.length).2 j = true ↔ ¬ prmN S V (atN l j) := by
  have hLj := (hl _).1 (atN_mem hj)
  rw [mAll_use, hLj.prm_iff]
  constructor
  · rintro ⟨i, k, h1, h2, ⟨c, h3⟩, h4⟩
    obtain ⟨⟨g1, g2⟩, g3⟩ := mrgO_some.1 h3
    have La := (hl _).1 (atN_mem h1)
    have Lb := (hl _).1 (atN_mem (show k < l.length by omega))
    obtain ⟨e, he, heE, x1, x2, -⟩ := mrg_shape La.ok Lb.ok g1 g2
    have hm := (Lv.mrg La Lb g1 g2).imp
    rcases h4 with h4 | h4
    · subst h4; exact ⟨e, heE, by rw [← x1]; exact hm⟩
    · subst h4; exact ⟨e, by rw [← g1]; exact heE, by rw [← x2]; exact hm⟩
  · rintro ⟨e, he, hi⟩
    have hc := hLj.cut he hi
    have h24 := lt24_bit (evN_lt hLj.ok) he
    have hn : (evN (cutN e (atN l j))).testBit e = false := by rw [ev_cut, testBit_ndiff]; simp
    obtain ⟨p, q, hp, hq, hne, a1, a2, e1, e2⟩ := pair_at hl hc h24 (ev_ins hLj.ins e he) hn
    -- the cube itself is one of the two; the other one lies elsewhere
    have hor : atN l j = atN l p ∨ atN l j = atN l q := by
      rcases sp_back hLj.ok he with h | h
      · exact .inl (h.trans a1.symm)
      · exact .inr (h.trans a2.symm)
    have key : ∀ p' q', p' < l.length → q' < l.length → mrgO (atN l p') (atN l q') = some (cutN e (atN l j)) → mrgO (atN l q') (atN l p') = some (cutN e (atN l j)) → p' ≠ q' → atN l j = atN l p' → atN l p' ≠ atN l q' → ∃ i k, i < l.length ∧ k < i ∧ (∃ c, mrgO (atN l i) (atN l k) = some c) ∧ (j = i ∨ j = k) := fun p' q' hp' hq' b1 b2 hne' hjp hpq => by
      have hjq : j ≠ q' := fun e9 => hpq (by rw [← hjp, e9])
      rw [← hjp] at b1 b2
      rcases Nat.lt_or_gt_of_ne hjq with h | h
      · exact ⟨q', j, hq', h, ⟨_, b2⟩, .inr rfl⟩
      · exact ⟨j, q', hj, h, ⟨_, b1⟩, .inl rfl⟩
    have hd : atN l p ≠ atN l q := by rw [a1, a2]; exact sp_ne hn
    rcases hor with h | h
    · exact key p q hp hq e1 e2 hne h hd
    · exact key q p hq hp e2 e1 (fun e => hne e.symm) h (fun e => hd e.symm)
end
end Go.Proofs.Ytedopalmfakeaaa
namespace Go.Proofs.Ytedopalmfakeaaa
set_option linter.unusedSimpArgs false
set_option linter.unusedVariables false
/-! ## primes by merging: all rounds (plain) -/
/-- the cubes of a list that take part in no merging -/
def prmL (l : List Cn) (u : Nat → Bool) : List Cn := ((List.range l.length).filter fun i => !u i).map (atN l)
/-- the primes of the rounds -/
def rndN : Nat → List Cn → List Cn
  | 0, _ => []
  | f + 1, l => prmL l (mAll l l.length).2 ++ rndN f (srtD ltN (mAll l l.length).1)
section
variable {S m : Nat} {V : Nat → Bool} {l : List Cn} {c x : Cn}
theorem prmL_mem (hS : S < 16777216) (hl : ∀ c, c ∈ l ↔ Lv S V m c) : x ∈ prmL l (mAll l l.length).2 ↔ x ∈ l ∧ prmN S V x := by
  unfold prmL
  simp only [List.mem_map, List.mem_filter, List.mem_range, Bool.not_eq_true']
  constructor
  · rintro ⟨i, ⟨hi, hu⟩, rfl⟩
    refine ⟨atN_mem hi, Classical.byContradiction fun hn => ?_⟩
    rw [(mAll_used hS hl hi).2 hn] at hu
    cases hu
  · rintro ⟨h1, h2⟩
    obtain ⟨i, hi, e⟩ := mem_atN h1
    refine ⟨i, ⟨hi, ?_⟩, e⟩
    cases hu : (mAll l l.length).2 i
    · rfl
    · exact absurd (by rw [e]; exact h2) ((mAll_used hS hl hi).1 hu)
theorem prm_num (hl : ∀ c, c ∈ l ↔ Lv S V m c) : (x ∈ l ∧ prmN S V x) ↔ prmN S V x ∧ popc (evN x) + m = popc S := by
  rw [hl]
  constructor
  · rintro ⟨h1, h2⟩; exact ⟨h2, h1.num⟩
  · rintro ⟨h1, h2⟩; exact ⟨⟨h1.1, h1.2.1, h1.2.2.1, h2⟩, h1⟩
theorem next_level (hS : S < 16777216) (hl : ∀ c, c ∈ l ↔ Lv S V m c) : ∀ c, c ∈ srtD ltN (mAll l l.length).1 ↔ Lv S V (m + 1) c := fun c => by
  rw [srtD_mem ltN_o, mAll_level hS hl]
theorem rndN_mem (hS : S < 16777216) : ∀ {f m : Nat} {l : List Cn}, (∀ c, c ∈ l ↔ Lv S V m c) → popc S < m + f → ∀ x, x ∈ rndN f l ↔ prmN S V x ∧ popc (evN x) + m ≤ popc S
  | 0, m, l, hl, hf, x => by
    constructor
    · intro h; cases h
    · rintro ⟨-, h⟩; omega
  | f + 1, m, l, hl, hf, x => by
    have ih := rndN_mem hS (f := f) (next_level hS hl) (by omega) x
    show x ∈ prmL l (mAll l l.length).2 ++ rndN f (srtD ltN (mAll l l.length).1) ↔ _
    rw [List.mem_append, prmL_mem hS hl, prm_num hl, ih]
    constructor
    · rintro (⟨h1, h2⟩ | ⟨h1, h2⟩)
      · exact ⟨h1, by omega⟩
      · exact ⟨h1, by omega⟩
    · rintro ⟨h1, h2⟩
      by_cases e : popc (evN x) + m = popc S
      · exact .inl ⟨h1, e⟩
      · exact .inr ⟨h1, by omega⟩
theorem sorted_nodup {l : List Cn} (h : l.Pairwise fun a b => ltN a b = true) : l.Nodup := h.imp fun h => ltN_o.ne h
theorem prmL_nodup (u : Nat → Bool) (h : l.Nodup) : (prmL l u).Nodup := by
  unfold prmL
  have h1 : ((List.range l.length).filter fun i => !u i).Nodup := List.nodup_range.filter _
  have h2 : ∀ i, i ∈ (List.range l.length).filter (fun i => !u i) → i < l.length := fun i hi => by
    rw [List.mem_filter, List.mem_range] at hi
    exact hi.1
  generalize (List.range l.length).filter (fun i => !u i) = r at *
  unfold List.Nodup
  rw [List.pairwise_map]
  refine List.Pairwise.imp_of_mem (fun {i j} hi hj hne e => ?_) h1
  rw [atN_lt (h2 i hi), atN_lt (h2 j hj)] at e
  exact hne ((List.getElem_inj h).1 e)
theorem rndN_nodup (hS : S < 16777216) : ∀ {f m : Nat} {l : List Cn}, (∀ c, c ∈ l ↔ Lv S V m c) → popc S < m + f → l.Nodup → (rndN f l).Nodup
  | 0, m, l, hl, hf, hn => List.nodup_nil
  | f + 1, m, l, hl, hf, hn => by
    have hl2 := next_level hS hl
    show (prmL l (mAll l l.length).2 ++ rndN f (srtD ltN (mAll l l.length).1)).Nodup
    rw [List.nodup_append]
    refine ⟨prmL_nodup _ hn, rndN_nodup hS hl2 (by omega) (sorted_nodup (srtD_sorted ltN_o _)), fun a ha b hb e => ?_⟩
    subst e
    have h1 := ((prm_num hl).1 ((prmL_mem hS hl).1 ha)).2
    have h2 := ((rndN_mem hS hl2 (by omega) a).1 hb).2
    omega
/-- the list is empty behind the last level -/
theorem lv_none (hl : ∀ c, c ∈ l ↔ Lv S V m c) (hm : popc S < m) : l = [] := by
  cases l with
  | nil => rfl
  | cons a l =>
    have := ((hl a).1 (by simp)).num
    omega
theorem rndN_nil : ∀ f, rndN f [] = []
  | 0 => rfl
  | f + 1 => by
    show prmL [] _ ++ rndN f (srtD ltN []) = []
    exact rndN_nil f
end
/-! ### the states of the support, and the cubes of one state -/
def stsN (S : Nat) : Nat → List Nat
  | 0 => [0]
  | i + 1 => if S.testBit i then stsN S i ++ (stsN S i).map (fun t => t ||| 2 ^ i) else stsN S i
theorem stsN_mem {S t : Nat} : ∀ {k}, t ∈ stsN S k ↔ ∀ i, t.testBit i = true → i < k ∧ S.testBit i = true
  | 0 => by
    simp only [stsN, List.mem_singleton]
    constructor
    · rintro rfl i hi; simp at hi
    · intro h
      exact (zero_iff t).2 fun i => by
        cases e : t.testBit i
        · rfl
        · have := (h i e).1; omega
  | k + 1 => by
    rw [stsN]
    by_cases hS : S.testBit k = true
    · rw [if_pos hS, List.mem_append, stsN_mem (k := k), List.mem_map]
      constructor
      · rintro (h | ⟨u, h, rfl⟩)
        · exact fun i hi => ⟨by have := (h i hi).1; omega, (h i hi).2⟩
        · rw [stsN_mem (k := k)] at h
          intro i hi
          rw [Nat.testBit_or, Nat.testBit_two_pow, Bool.or_eq_true] at hi
          rcases hi with hi | hi
          · exact ⟨by have := (h i hi).1; omega, (h i hi).2⟩
          · have e : k = i := by simpa using hi
            subst e
            exact ⟨by omega, hS⟩
      · intro h
        by_cases hk : t.testBit k = true
        · refine .inr ⟨ndiff t (2 ^ k), stsN_mem.2 fun i hi => ?_, ?_⟩
          · rw [testBit_ndiff, Nat.testBit_two_pow] at hi
            simp only [Bool.and_eq_true, Bool.not_eq_true', decide_eq_false_iff_not] at hi
            have := h i hi.1
            exact ⟨by omega, this.2⟩
          · apply Nat.eq_of_testBit_eq
            intro i
            rw [Nat.testBit_or, testBit_ndiff, Nat.testBit_two_pow]
            by_cases e : k = i
            · subst e; simp [hk]
            · simp [e]
        · refine .inl fun i hi => ?_
          have := h i hi
          by_cases e : i = k
          · subst e; exact absurd hi hk
          · exact ⟨by omega, this.2⟩
    · rw [if_neg hS, stsN_mem (k := k)]
      constructor
      · exact fun h i hi => ⟨by have := (h i hi).1; omega, (h i hi).2⟩
      · intro h i hi
        have := h i hi
        by_cases e : i = k
        · subst e; exact absurd this.2 hS
        · exact ⟨by omega, this.2⟩
theorem stsN_nodup {S : Nat} : ∀ {k}, (stsN S k).Nodup
  | 0 => by simp [stsN]
  | k + 1 => by
    rw [stsN]
    by_cases hS : S.testBit k = true
    · rw [if_pos hS, List.nodup_append]
      have no : ∀ t, t ∈ stsN S k → t.testBit k = false := fun t ht => by
        cases e : t.testBit k
        · rfl
        · have := (stsN_mem.1 ht k e).1; omega
      refine ⟨stsN_nodup, ?_, fun a ha b hb e => ?_⟩
      · unfold List.Nodup
        rw [List.pairwise_map]
        refine List.Pairwise.imp_of_mem (fun {a b} ha hb hne e => hne ?_) (stsN_nodup (S := S) (k := k))
        apply Nat.eq_of_testBit_eq
        intro i
        have h1 : (a ||| 2 ^ k).testBit i = (b ||| 2 ^ k).testBit i := by rw [e]
        rw [Nat.testBit_or, Nat.testBit_or, Nat.testBit_two_pow] at h1
        by_cases h2 : k = i
        · subst h2; rw [no a ha, no b hb]
        · simpa [h2] using h1
      · obtain ⟨u, hu, rfl⟩ := List.mem_map.1 hb
        have := no a ha
        rw [e, Nat.testBit_or, Nat.testBit_two_pow] at this
        simp at this
    · rw [if_neg hS]
      exact stsN_nodup
/-- the cube of one state -/
def minN (S t : Nat) : Cn := (t, ndiff S t)
def mintL (S k : Nat) (V : Nat → Bool) : List Cn := ((stsN S k).filter V).map (minN S)
theorem mint_level {S k : Nat} {V : Nat → Bool} (hS : S < 16777216) (hk : ∀ i, S.testBit i = true → i < k) (c : Cn) : c ∈ mintL S k V ↔ Lv S V 0 c := by
  unfold mintL
  simp only [List.mem_map, List.mem_filter]
  constructor
  · rintro ⟨t, ⟨h1, h2⟩, rfl⟩
    have h3 := stsN_mem.1 h1
    have hev : evN (minN S t) = S := by
      apply Nat.eq_of_testBit_eq
      intro i
      rw [evN_bit]
      show (t.testBit i || (ndiff S t).testBit i) = _
      rw [testBit_ndiff]
      cases ht : t.testBit i
      · simp
      · simp [(h3 i ht).2]
    have hlt : t < 16777216 := by
      refine Nat.lt_pow_two_of_testBit (n := 24) t fun i hi => ?_
      cases e : t.testBit i
      · rfl
      · have := lt24_bit hS (h3 i e).2; omega
    refine ⟨⟨hlt, ?_, ?_⟩, ?_, ?_, ?_⟩
    · refine Nat.lt_pow_two_of_testBit (n := 24) _ fun i hi => ?_
      show (ndiff S t).testBit i = false
      cases e : (ndiff S t).testBit i
      · rfl
      · rw [testBit_ndiff, Bool.and_eq_true] at e
        have := lt24_bit hS e.1; omega
    · refine dis fun i => ?_
      show ¬ (t.testBit i = true ∧ (ndiff S t).testBit i = true)
      rw [testBit_ndiff]
      rintro ⟨h4, h5⟩
      rw [h4] at h5
      simp at h5
    · intro i hi
      rcases hi with hi | hi
      · exact (h3 i hi).2
      · have hi : (ndiff S t).testBit i = true := hi
        rw [testBit_ndiff, Bool.and_eq_true] at hi
        exact hi.1
    · intro u hu hh
      have e : u = t := by
        apply Nat.eq_of_testBit_eq
        intro i
        have h4 := (hoN_iff _ _).1 hh i
        cases hti : t.testBit i
        · cases hui : u.testBit i
          · rfl
          · have h5 : (minN S t).2.testBit i = true := by
              show (ndiff S t).testBit i = true
              rw [testBit_ndiff, hu i hui, hti]; rfl
            rw [h4.2 h5] at hui; cases hui
        · exact h4.1 hti
      rw [e]; exact h2
    · rw [hev]; omega
  · intro h
    have hev : evN c = S := by
      refine Classical.byContradiction fun hne => ?_
      have hex : ∃ i, S.testBit i = true ∧ (evN c).testBit i = false := by
        refine Classical.byContradiction fun hx => hne ?_
        apply Nat.eq_of_testBit_eq
        intro i
        cases h1 : (evN c).testBit i <;> cases h2 : S.testBit i
        · rfl
        · exact absurd ⟨i, h2, h1⟩ hx
        · rw [ev_ins h.ins i h1] at h2; cases h2
        · rfl
      obtain ⟨i, h1, h2⟩ := hex
      have h24 := lt24_bit hS h1
      have h3 := popc_cut (S := S) h24 h1
      have h4 : popc (evN c) ≤ popc (ndiff S (2 ^ i)) := pop_sub 24 fun j hj => by
        rw [testBit_ndiff, Nat.testBit_two_pow, ev_ins h.ins j hj]
        by_cases e : i = j
        · subst e; rw [h2] at hj; cases hj
        · simp [e]
      have := h.num
      omega
    have h1S : ∀ i, c.1.testBit i = true → S.testBit i = true := fun i hi => h.ins i (.inl hi)
    have h2S : c.2 = ndiff S c.1 := by
      apply Nat.eq_of_testBit_eq
      intro i
      rw [testBit_ndiff, ← hev, evN_bit]
      have := ok_bit h.ok i
      cases h1 : c.1.testBit i <;> cases h2 : c.2.testBit i <;> simp_all
    refine ⟨c.1, ⟨stsN_mem.2 fun i hi => ⟨hk i (h1S i hi), h1S i hi⟩, ?_⟩, ?_⟩
    · refine h.imp c.1 h1S ((hoN_iff _ _).2 fun i => ⟨id, fun h2 => ?_⟩)
      have := ok_bit h.ok i
      cases h1 : c.1.testBit i
      · rfl
      · exact absurd ⟨h1, h2⟩ this
    · exact Prod.ext rfl h2S.symm
theorem mintL_nodup {S k : Nat} {V : Nat → Bool} : (mintL S k V).Nodup := by
  unfold mintL List.Nodup
  rw [List.pairwise_map]
  refine List.Pairwise.imp (fun {a b} hne e => hne ?_) (stsN_nodup.filter V)
  exact congrArg Prod.fst e
/-- all primes, sorted: what the reference's All gives -/
theorem allN_spec {S k : Nat} {V : Nat → Bool} (hS : S < 16777216) (hk : ∀ i, S.testBit i = true → i < k) {f : Nat} (hf : popc S < f) :
    (rndN f (mintL S k V)).Nodup ∧ ∀ x, x ∈ rndN f (mintL S k V) ↔ prmN S V x := by
  have hl := fun c => mint_level (V := V) hS hk c
  refine ⟨rndN_nodup hS hl (by omega) mintL_nodup, fun x => ?_⟩
  rw [rndN_mem hS hl (by omega) x]
  constructor
  · exact fun h => h.1
  · intro h
    refine ⟨h, ?_⟩
    have : popc (evN x) ≤ popc S := pop_sub 24 (ev_ins h.2.1)
    omega
end Go.Proofs.Ytedopalmfakeaaa
namespace Go.Proofs.Ytedopalmfakeaaa
set_option linter.unusedSimpArgs false
set_option linter.unusedVariables false
/-! ## primes by numbers in base 3 (plain) -/
/-- digit k of a cube's number: 0 works, 1 failed, 2 free -/
def dg3 (c k : Nat) : Nat := c / 3 ^ k % 3
theorem dg3_lt (c k : Nat) : dg3 c k < 3 := Nat.mod_lt _ (by omega)
theorem dg3_low {c a k : Nat} (h : k < a) : dg3 (c % 3 ^ a) k = dg3 c k := by
  unfold dg3
  obtain ⟨d, rfl⟩ : ∃ d, a = k + (d + 1) := ⟨a - k - 1, by omega⟩
  rw [Nat.pow_add, Nat.mod_mul_right_div_self, Nat.pow_succ, Nat.mul_comm (3 ^ d) 3, Nat.mod_mul_right_mod]
theorem dg3_high {c a k : Nat} (h : a < k) : dg3 c k = dg3 (c / 3 ^ (a + 1)) (k - a - 1) := by
  unfold dg3
  obtain ⟨d, rfl⟩ : ∃ d, k = a + 1 + d := ⟨k - a - 1, by omega⟩
  rw [Nat.pow_add, ← Nat.div_div_eq_div_mul, show a + 1 + d - a - 1 = d by omega]
/-- a digit goes down -/
theorem dg3_sub {c a e : Nat} (he : e ≤ dg3 c a) : e * 3 ^ a ≤ c ∧ ∀ k, dg3 (c - e * 3 ^ a) k = if k = a then dg3 c a - e else dg3 c k := by
  have hp : 0 < 3 ^ a := Nat.pow_pos (by omega)
  have h1 : 3 ^ a * (c / 3 ^ a) + c % 3 ^ a = c := Nat.div_add_mod c (3 ^ a)
  have hle : e ≤ c / 3 ^ a := Nat.le_trans he (Nat.mod_le _ _)
  have h2 : c - e * 3 ^ a = c % 3 ^ a + 3 ^ a * (c / 3 ^ a - e) := by
    rw [Nat.mul_sub, Nat.mul_comm e]
    have := Nat.mul_le_mul_left (3 ^ a) hle
    omega
  have hq : (c - e * 3 ^ a) / 3 ^ a = c / 3 ^ a - e := by
    rw [h2, Nat.add_mul_div_left _ _ hp, Nat.div_eq_of_lt (Nat.mod_lt _ hp), Nat.zero_add]
  have hr : (c - e * 3 ^ a) % 3 ^ a = c % 3 ^ a := by
    rw [h2, Nat.add_mul_mod_self_left, Nat.mod_mod]
  have hd : dg3 c a = c / 3 ^ a % 3 := rfl
  refine ⟨?_, fun k => ?_⟩
  · have := Nat.mul_le_mul_left (3 ^ a) hle
    rw [Nat.mul_comm]
    omega
  · by_cases hk : k = a
    · rw [if_pos hk, hk]
      show (c - e * 3 ^ a) / 3 ^ a % 3 = _
      rw [hq]
      omega
    · rw [if_neg hk]
      rcases Nat.lt_or_gt_of_ne hk with h | h
      · rw [← dg3_low h, hr, dg3_low h]
      · rw [dg3_high h, dg3_high (c := c) h]
        have e1 : (c - e * 3 ^ a) / 3 ^ (a + 1) = c / 3 ^ (a + 1) := by
          rw [Nat.pow_succ, ← Nat.div_div_eq_div_mul, ← Nat.div_div_eq_div_mul, hq]
          omega
        rw [e1]
/-- a digit goes up -/
theorem dg3_add {c a e : Nat} (he : dg3 c a + e < 3) : ∀ k, dg3 (c + e * 3 ^ a) k = if k = a then dg3 c a + e else dg3 c k := by
  have hp : 0 < 3 ^ a := Nat.pow_pos (by omega)
  have hq : (c + e * 3 ^ a) / 3 ^ a = c / 3 ^ a + e := by rw [Nat.mul_comm e, Nat.add_mul_div_left _ _ hp]
  have hr : (c + e * 3 ^ a) % 3 ^ a = c % 3 ^ a := by rw [Nat.mul_comm e, Nat.add_mul_mod_self_left]
  have hd : dg3 c a = c / 3 ^ a % 3 := rfl
  intro k
  by_cases hk : k = a
  · rw [if_pos hk, hk]
    show (c + e * 3 ^ a) / 3 ^ a % 3 = _
    rw [hq]
    omega
  · rw [if_neg hk]
    rcases Nat.lt_or_gt_of_ne hk with h | h
    · rw [← dg3_low h, hr, dg3_low h]
    · rw [dg3_high h, dg3_high (c := c) h]
      have e1 : (c + e * 3 ^ a) / 3 ^ (a + 1) = c / 3 ^ (a + 1) := by
        rw [Nat.pow_succ, ← Nat.div_div_eq_div_mul, ← Nat.div_div_eq_div_mul, hq]
        omega
      rw [e1]
/-- numbers with the same digits -/
theorem dg3_ext : ∀ {n a b : Nat}, a < 3 ^ n → b < 3 ^ n → (∀ k, k < n → dg3 a k = dg3 b k) → a = b
  | 0, a, b, ha, hb, _ => by simp at ha hb; omega
  | n + 1, a, b, ha, hb, h => by
    have h0 := h 0 (by omega)
    unfold dg3 at h0
    simp at h0
    have ih := dg3_ext (n := n) (a := a / 3) (b := b / 3) (by rw [Nat.pow_succ] at ha; omega) (by rw [Nat.pow_succ] at hb; omega) fun k hk => by
      have := h (k + 1) (by omega)
      unfold dg3 at this ⊢
      rw [Nat.pow_succ, Nat.mul_comm (3 ^ k) 3, ← Nat.div_div_eq_div_mul, ← Nat.div_div_eq_div_mul] at this
      exact this
    omega
end Go.Proofs.Ytedopalmfakeaaa
namespace Go.Proofs.Ytedopalmfakeaaa
set_option linter.unusedSimpArgs false
set_option linter.unusedVariables false
/-! ## primes by numbers in base 3: the cubes of numbers (plain) -/
/-- the events of the support -/
structure Evs (S n : Nat) (ev : Nat → Nat) : Prop where
  lt : ∀ k, k < n → ev k < 24
  inj : ∀ j k, j < n → k < n → ev j = ev k → j = k
  iff : ∀ i, S.testBit i = true ↔ ∃ k, k < n ∧ ev k = i
/-- the mask of some of the events -/
def mskE (ev : Nat → Nat) (p : Nat → Bool) : Nat → Nat
  | 0 => 0
  | k + 1 => if p k then mskE ev p k ||| 2 ^ ev k else mskE ev p k
theorem mskE_bit {ev : Nat → Nat} {p : Nat → Bool} {i : Nat} : ∀ {n}, (mskE ev p n).testBit i = true ↔ ∃ k, k < n ∧ p k = true ∧ ev k = i
  | 0 => by simp [mskE]
  | n + 1 => by
    have ih := mskE_bit (ev := ev) (p := p) (i := i) (n := n)
    have e : (∃ k, k < n + 1 ∧ p k = true ∧ ev k = i) ↔ (∃ k, k < n ∧ p k = true ∧ ev k = i) ∨ (p n = true ∧ ev n = i) := by
      constructor
      · rintro ⟨k, h1, h2⟩
        by_cases h3 : k = n
        · subst h3; exact .inr h2
        · exact .inl ⟨k, by omega, h2⟩
      · rintro (⟨k, h1, h2⟩ | h)
        · exact ⟨k, by omega, h2⟩
        · exact ⟨n, by omega, h⟩
    rw [e, ← ih, mskE]
    by_cases hp : p n = true
    · rw [if_pos hp, Nat.testBit_or, Nat.testBit_two_pow, Bool.or_eq_true, decide_eq_true_eq]
      simp [hp]
    · rw [if_neg hp]
      simp [hp]
section
variable {S n : Nat} {ev : Nat → Nat}
theorem Evs.msk (h : Evs S n ev) {p : Nat → Bool} {k : Nat} (hk : k < n) : (mskE ev p n).testBit (ev k) = p k := by
  cases hp : p k
  · cases hb : (mskE ev p n).testBit (ev k)
    · rfl
    · obtain ⟨j, h1, h2, h3⟩ := mskE_bit.1 hb
      rw [h.inj j k h1 hk h3, hp] at h2
      cases h2
  · exact mskE_bit.2 ⟨k, hk, hp, rfl⟩
/-- a mask inside of S, by its events -/
theorem Evs.ext (h : Evs S n ev) {a b : Nat} (ha : ∀ i, a.testBit i = true → S.testBit i = true) (hb : ∀ i, b.testBit i = true → S.testBit i = true) (e : ∀ k, k < n → a.testBit (ev k) = b.testBit (ev k)) : a = b := by
  apply Nat.eq_of_testBit_eq
  intro i
  cases hS : S.testBit i
  · cases h1 : a.testBit i <;> cases h2 : b.testBit i
    · rfl
    · rw [hb i h2] at hS; cases hS
    · rw [ha i h1] at hS; cases hS
    · rfl
  · obtain ⟨k, hk, rfl⟩ := (h.iff i).1 hS
    exact e k hk
theorem Evs.sub (h : Evs S n ev) (p : Nat → Bool) : ∀ i, (mskE ev p n).testBit i = true → S.testBit i = true := fun i hi => by
  obtain ⟨k, h1, -, h3⟩ := mskE_bit.1 hi
  exact (h.iff i).2 ⟨k, h1, h3⟩
theorem Evs.lt24 (h : Evs S n ev) (p : Nat → Bool) : mskE ev p n < 16777216 := by
  refine Nat.lt_pow_two_of_testBit (n := 24) _ fun i hi => ?_
  cases hb : (mskE ev p n).testBit i
  · rfl
  · obtain ⟨k, h1, -, h3⟩ := mskE_bit.1 hb
    have := h.lt k h1
    omega
/-- the cube of a number -/
def cubN (n : Nat) (ev : Nat → Nat) (c : Nat) : Cn := (mskE ev (fun k => dg3 c k == 1) n, mskE ev (fun k => dg3 c k == 0) n)
theorem cubN_bit (h : Evs S n ev) (c : Nat) {k : Nat} (hk : k < n) : (cubN n ev c).1.testBit (ev k) = (dg3 c k == 1) ∧ (cubN n ev c).2.testBit (ev k) = (dg3 c k == 0) := ⟨h.msk hk, h.msk hk⟩
theorem cubN_ins (h : Evs S n ev) (c : Nat) : inS S (cubN n ev c) := fun i hi => by
  rcases hi with hi | hi
  · exact h.sub _ i hi
  · exact h.sub _ i hi
theorem cubN_ok (h : Evs S n ev) (c : Nat) : okN (cubN n ev c) := by
  refine ⟨h.lt24 _, h.lt24 _, dis fun i => ?_⟩
  rintro ⟨h1, h2⟩
  obtain ⟨k, hk, rfl⟩ := (h.iff i).1 (h.sub _ i h1)
  rw [(cubN_bit h c hk).1] at h1
  rw [(cubN_bit h c hk).2] at h2
  simp at h1 h2
  omega
theorem cubN_ev (h : Evs S n ev) (c : Nat) {k : Nat} (hk : k < n) : (evN (cubN n ev c)).testBit (ev k) = !(dg3 c k == 2) := by
  rw [evN_bit, (cubN_bit h c hk).1, (cubN_bit h c hk).2]
  have := dg3_lt c k
  have h3 : dg3 c k = 0 ∨ dg3 c k = 1 ∨ dg3 c k = 2 := by omega
  rcases h3 with e | e | e <;> rw [e] <;> rfl
/-- cubes over S are the same where they are the same at each event -/
theorem Evs.cext (h : Evs S n ev) {a b : Cn} (ha : inS S a) (hb : inS S b) (e : ∀ k, k < n → a.1.testBit (ev k) = b.1.testBit (ev k) ∧ a.2.testBit (ev k) = b.2.testBit (ev k)) : a = b :=
  Prod.ext (h.ext (fun i hi => ha i (.inl hi)) (fun i hi => hb i (.inl hi)) fun k hk => (e k hk).1) (h.ext (fun i hi => ha i (.inr hi)) (fun i hi => hb i (.inr hi)) fun k hk => (e k hk).2)
theorem inS_sp (h : Evs S n ev) {x : Cn} (hx : inS S x) {a : Nat} (ha : a < n) : inS S (spY (ev a) x) ∧ inS S (spZ (ev a) x) := by
  have hS : S.testBit (ev a) = true := (h.iff _).2 ⟨a, ha, rfl⟩
  refine ⟨fun i hi => ?_, fun i hi => ?_⟩
  · rw [(spY_bit _ x i).1, (spY_bit _ x i).2] at hi
    by_cases e : ev a = i
    · subst e; exact hS
    · simp [e] at hi; exact hx i hi
  · rw [(spZ_bit _ x i).1, (spZ_bit _ x i).2] at hi
    by_cases e : ev a = i
    · subst e; exact hS
    · simp [e] at hi; exact hx i hi
theorem inS_cut {x : Cn} (hx : inS S x) (j : Nat) : inS S (cutN j x) := fun i hi => by
  rw [(cut_bit j x i).1, (cut_bit j x i).2] at hi
  refine hx i ?_
  rcases hi with hi | hi
  · exact .inl (by simp at hi; exact hi.1)
  · exact .inr (by simp at hi; exact hi.1)
theorem dec_ev (h : Evs S n ev) {a k : Nat} (ha : a < n) (hk : k < n) : decide (ev a = ev k) = decide (k = a) := by
  rw [decide_eq_decide]
  exact ⟨fun e => (h.inj a k ha hk e).symm, fun e => by rw [e]⟩
/-- a free event, put to failed and to works -/
theorem cubN_split (h : Evs S n ev) {c a : Nat} (ha : a < n) (hd : dg3 c a = 2) : cubN n ev (c - 3 ^ a) = spY (ev a) (cubN n ev c) ∧ cubN n ev (c - 2 * 3 ^ a) = spZ (ev a) (cubN n ev c) := by
  have d1 := (dg3_sub (c := c) (a := a) (e := 1) (by omega)).2
  have d2 := (dg3_sub (c := c) (a := a) (e := 2) (by omega)).2
  rw [Nat.one_mul] at d1
  have hi := inS_sp h (cubN_ins h c) ha
  refine ⟨h.cext (cubN_ins h _) hi.1 fun k hk => ?_, h.cext (cubN_ins h _) hi.2 fun k hk => ?_⟩
  · rw [(cubN_bit h _ hk).1, (cubN_bit h _ hk).2, (spY_bit _ _ _).1, (spY_bit _ _ _).2, (cubN_bit h c hk).1, (cubN_bit h c hk).2, d1 k, dec_ev h ha hk]
    by_cases e : k = a
    · subst e; rw [if_pos rfl, hd]; simp
    · rw [if_neg e]; simp [e]
  · rw [(cubN_bit h _ hk).1, (cubN_bit h _ hk).2, (spZ_bit _ _ _).1, (spZ_bit _ _ _).2, (cubN_bit h c hk).1, (cubN_bit h c hk).2, d2 k, dec_ev h ha hk]
    by_cases e : k = a
    · subst e; rw [if_pos rfl, hd]; simp
    · rw [if_neg e]; simp [e]
/-- an event that is left out -/
theorem cubN_cut (h : Evs S n ev) {c a : Nat} (ha : a < n) (hd : dg3 c a ≠ 2) : cubN n ev (c + (2 - dg3 c a) * 3 ^ a) = cutN (ev a) (cubN n ev c) := by
  have hl := dg3_lt c a
  have d1 := dg3_add (c := c) (a := a) (e := 2 - dg3 c a) (by omega)
  refine h.cext (cubN_ins h _) (inS_cut (cubN_ins h c) _) fun k hk => ?_
  rw [(cubN_bit h _ hk).1, (cubN_bit h _ hk).2, (cut_bit _ _ _).1, (cut_bit _ _ _).2, (cubN_bit h c hk).1, (cubN_bit h c hk).2, d1 k, dec_ev h ha hk]
  by_cases e : k = a
  · subst e
    rw [if_pos rfl, show dg3 c k + (2 - dg3 c k) = 2 by omega]
    simp
  · rw [if_neg e]; simp [e]
/-- different numbers, different cubes -/
theorem cubN_inj (h : Evs S n ev) {c d : Nat} (hc : c < 3 ^ n) (hd : d < 3 ^ n) (e : cubN n ev c = cubN n ev d) : c = d := by
  refine dg3_ext hc hd fun k hk => ?_
  have e1 : (dg3 c k == 1) = (dg3 d k == 1) := by rw [← (cubN_bit h c hk).1, ← (cubN_bit h d hk).1, e]
  have e2 : (dg3 c k == 0) = (dg3 d k == 0) := by rw [← (cubN_bit h c hk).2, ← (cubN_bit h d hk).2, e]
  have l1 := dg3_lt c k
  have l2 := dg3_lt d k
  have c1 : dg3 c k = 0 ∨ dg3 c k = 1 ∨ dg3 c k = 2 := by omega
  have c2 : dg3 d k = 0 ∨ dg3 d k = 1 ∨ dg3 d k = 2 := by omega
  rcases c1 with x | x | x <;> rcases c2 with y | y | y <;> rw [x, y] at e1 e2 ⊢ <;> simp at e1 e2
/-- numbers by their digits -/
theorem dg3_make (δ : Nat → Nat) (hδ : ∀ k, δ k < 3) : ∀ n, ∃ c, c < 3 ^ n ∧ ∀ k, k < n → dg3 c k = δ k
  | 0 => ⟨0, by simp, fun k hk => by omega⟩
  | n + 1 => by
    obtain ⟨c, hc, hk⟩ := dg3_make δ hδ n
    have hd := hδ n
    refine ⟨c + δ n * 3 ^ n, ?_, fun k h => ?_⟩
    · rw [Nat.pow_succ]
      have : δ n * 3 ^ n ≤ 2 * 3 ^ n := Nat.mul_le_mul_right _ (by omega)
      omega
    · have h0 : dg3 c n = 0 := by unfold dg3; rw [Nat.div_eq_of_lt hc]
      rw [dg3_add (c := c) (a := n) (e := δ n) (by omega) k, h0]
      by_cases e : k = n
      · rw [if_pos e, e]; omega
      · rw [if_neg e]; exact hk k (by omega)
/-- every cube over S has a number -/
theorem cubN_surj (h : Evs S n ev) {x : Cn} (hx : okN x) (hi : inS S x) : ∃ c, c < 3 ^ n ∧ cubN n ev c = x := by
  obtain ⟨c, hc, hk⟩ := dg3_make (fun k => if x.1.testBit (ev k) then 1 else if x.2.testBit (ev k) then 0 else 2) (fun k => by split <;> (try split) <;> omega) n
  refine ⟨c, hc, h.cext (cubN_ins h c) hi fun k hkn => ?_⟩
  rw [(cubN_bit h c hkn).1, (cubN_bit h c hkn).2, hk k hkn]
  have ho := ok_bit hx (ev k)
  cases h1 : x.1.testBit (ev k) <;> cases h2 : x.2.testBit (ev k)
  · simp
  · simp
  · simp
  · exact absurd ⟨h1, h2⟩ ho
end
end Go.Proofs.Ytedopalmfakeaaa
namespace Go.Proofs.Ytedopalmfakeaaa
set_option linter.unusedSimpArgs false
set_option linter.unusedVariables false
/-! ## primes by numbers in base 3: which numbers are implicants, and which primes (plain) -/
section
variable {S n : Nat} {ev : Nat → Nat} {V : Nat → Bool} {I : Nat → Bool}
/-- a table of the implicants by their numbers -/
def IsI (S n : Nat) (ev : Nat → Nat) (V I : Nat → Bool) : Prop := ∀ c, I c = true ↔ impN S V (cubN n ev c)
theorem isI_ex (S n : Nat) (ev : Nat → Nat) (V : Nat → Bool) : ∃ I, IsI S n ev V I := by
  classical
  exact ⟨fun c => decide (impN S V (cubN n ev c)), fun c => by simp⟩
theorem impN_split {c : Cn} {j : Nat} : impN S V c ↔ impN S V (spY j c) ∧ impN S V (spZ j c) := by
  have w1 : wiN (spY j c) c = true := (wiN_iff _ _).2 fun i => by
    rw [(spY_bit j c i).1, (spY_bit j c i).2]; exact ⟨fun h => by simp [h], id⟩
  have w2 : wiN (spZ j c) c = true := (wiN_iff _ _).2 fun i => by
    rw [(spZ_bit j c i).1, (spZ_bit j c i).2]; exact ⟨id, fun h => by simp [h]⟩
  constructor
  · exact fun h => ⟨impN_of_wi w1 h, impN_of_wi w2 h⟩
  · rintro ⟨h1, h2⟩ t ht hh
    cases hj : t.testBit j
    · refine h2 t ht ?_
      have := hoN_no c.1 c.2 j t
      show hoN (c.1, c.2 ||| 2 ^ j) t = true
      rw [this, hj]
      simpa using hh
    · refine h1 t ht ?_
      have := hoN_yes c.1 c.2 j t
      show hoN (c.1 ||| 2 ^ j, c.2) t = true
      rw [this, hj]
      simpa using hh
/-- no event is free: one state -/
theorem IsI.full (hI : IsI S n ev V I) (h : Evs S n ev) {c : Nat} (hf : ∀ k, k < n → dg3 c k ≠ 2) : I c = V (cubN n ev c).1 := by
  have key : impN S V (cubN n ev c) ↔ V (cubN n ev c).1 = true := by
    constructor
    · intro hi
      refine hi _ (h.sub _) ((hoN_iff _ _).2 fun i => ⟨id, fun h2 => ?_⟩)
      have := ok_bit (cubN_ok h c) i
      cases h1 : (cubN n ev c).1.testBit i
      · rfl
      · exact absurd ⟨h1, h2⟩ this
    · intro hv t ht hh
      have e : t = (cubN n ev c).1 := by
        refine h.ext ht (h.sub _) fun k hk => ?_
        have h4 := (hoN_iff _ _).1 hh (ev k)
        rw [(cubN_bit h c hk).1, (cubN_bit h c hk).2] at h4
        rw [(cubN_bit h c hk).1]
        have l := dg3_lt c k
        have h5 : dg3 c k = 0 ∨ dg3 c k = 1 := by have := hf k hk; omega
        rcases h5 with e | e
        · rw [e] at h4 ⊢
          rw [h4.2 rfl]; rfl
        · rw [e] at h4 ⊢
          rw [h4.1 rfl]; rfl
      rw [e]; exact hv
  cases hv : V (cubN n ev c).1
  · cases hc : I c
    · rfl
    · rw [key.1 ((hI c).1 hc)] at hv; cases hv
  · exact (hI c).2 (key.2 hv)
/-- an event is free: both parts -/
theorem IsI.free (hI : IsI S n ev V I) (h : Evs S n ev) {c a : Nat} (ha : a < n) (hd : dg3 c a = 2) : I c = (I (c - 3 ^ a) && I (c - 2 * 3 ^ a)) := by
  obtain ⟨e1, e2⟩ := cubN_split h ha hd
  have key : I c = true ↔ I (c - 3 ^ a) = true ∧ I (c - 2 * 3 ^ a) = true := by
    rw [hI, hI, hI, e1, e2]
    exact impN_split
  cases h1 : I c <;> cases h2 : I (c - 3 ^ a) <;> cases h3 : I (c - 2 * 3 ^ a) <;> simp_all
/-- no event of the cube can be left out -/
def prT (I : Nat → Bool) (n c : Nat) : Bool := (List.range n).all fun k => dg3 c k == 2 || !I (c + (2 - dg3 c k) * 3 ^ k)
theorem IsI.prime (hI : IsI S n ev V I) (h : Evs S n ev) (c : Nat) : (I c && prT I n c) = true ↔ prmN S V (cubN n ev c) := by
  rw [Bool.and_eq_true, hI]
  unfold prT prmN
  rw [List.all_eq_true]
  constructor
  · rintro ⟨h1, h2⟩
    refine ⟨cubN_ok h c, cubN_ins h c, h1, fun j hj hi => ?_⟩
    obtain ⟨k, hk, rfl⟩ := (h.iff j).1 (ev_ins (cubN_ins h c) j hj)
    rw [cubN_ev h c hk] at hj
    have hd : dg3 c k ≠ 2 := by simpa using hj
    have h3 := h2 k (List.mem_range.2 hk)
    rw [Bool.or_eq_true, beq_iff_eq, Bool.not_eq_true'] at h3
    rcases h3 with h3 | h3
    · exact hd h3
    · rw [← cubN_cut h hk hd] at hi
      rw [(hI _).2 hi] at h3
      cases h3
  · rintro ⟨-, -, h1, h2⟩
    refine ⟨h1, fun k hk => ?_⟩
    have hk := List.mem_range.1 hk
    rw [Bool.or_eq_true, beq_iff_eq, Bool.not_eq_true']
    by_cases hd : dg3 c k = 2
    · exact .inl hd
    · right
      have h3 := h2 (ev k) (by rw [cubN_ev h c hk]; simpa using hd)
      rw [← cubN_cut h hk hd] at h3
      cases hi : I (c + (2 - dg3 c k) * 3 ^ k)
      · rfl
      · exact absurd ((hI _).1 hi) h3
/-- the primes in the order of their numbers -/
def outP (I : Nat → Bool) (n : Nat) (ev : Nat → Nat) (m : Nat) : List Cn := ((List.range m).filter fun c => I c && prT I n c).map (cubN n ev)
theorem outP_succ (m : Nat) : outP I n ev (m + 1) = outP I n ev m ++ (if I m && prT I n m then [cubN n ev m] else []) := by
  unfold outP
  rw [List.range_succ, List.filter_append, List.map_append]
  congr 1
  by_cases e : (I m && prT I n m) = true
  · rw [if_pos e]; simp [List.filter_cons, e]
  · rw [if_neg e]; simp [List.filter_cons, e]
theorem outP_mem (hI : IsI S n ev V I) (h : Evs S n ev) (x : Cn) : x ∈ outP I n ev (3 ^ n) ↔ prmN S V x := by
  unfold outP
  simp only [List.mem_map, List.mem_filter, List.mem_range]
  constructor
  · rintro ⟨c, ⟨-, h2⟩, rfl⟩
    exact (hI.prime h c).1 h2
  · intro hx
    obtain ⟨c, hc, e⟩ := cubN_surj h hx.1 hx.2.1
    refine ⟨c, ⟨hc, (hI.prime h c).2 (by rw [e]; exact hx)⟩, e⟩
theorem outP_nodup (h : Evs S n ev) : (outP I n ev (3 ^ n)).Nodup := by
  unfold outP List.Nodup
  rw [List.pairwise_map]
  refine List.Pairwise.imp_of_mem (fun {a b} ha hb hne e => hne ?_) ((List.nodup_range (n := 3 ^ n)).filter fun c => I c && prT I n c)
  rw [List.mem_filter, List.mem_range] at ha hb
  exact cubN_inj h ha.1 hb.1 e
theorem Evs.small (h : Evs S n ev) : S < 16777216 := by
  refine Nat.lt_pow_two_of_testBit (n := 24) _ fun i hi => ?_
  cases hb : S.testBit i
  · rfl
  · obtain ⟨k, h1, h3⟩ := (h.iff i).1 hb
    have := h.lt k h1
    omega
end
end Go.Proofs.Ytedopalmfakeaaa
namespace Go.Proofs.Ytedopalmfakeaaa
set_option linter.unusedSimpArgs false
set_option linter.unusedVariables false
/-! ## the parts of a mask, from itself down to the empty one (plain) -/
theorem and_half (a b : Nat) : (a &&& b) / 2 = a / 2 &&& b / 2 := by
  apply Nat.eq_of_testBit_eq
  intro i
  rw [Nat.testBit_and, ← Nat.testBit_succ, ← Nat.testBit_succ, ← Nat.testBit_succ, Nat.testBit_and]
theorem and_low (a b : Nat) : (a &&& b) % 2 = if a % 2 = 1 ∧ b % 2 = 1 then 1 else 0 := by
  have h : (a &&& b).testBit 0 = (a.testBit 0 && b.testBit 0) := Nat.testBit_and ..
  rw [Nat.testBit_zero, Nat.testBit_zero, Nat.testBit_zero] at h
  have l := Nat.mod_two_eq_zero_or_one (a &&& b)
  by_cases h3 : a % 2 = 1 ∧ b % 2 = 1
  · rw [if_pos h3]
    rw [h3.1, h3.2] at h
    simpa using h
  · rw [if_neg h3]
    have h4 : (decide (a % 2 = 1) && decide (b % 2 = 1)) = false := by
      cases e1 : decide (a % 2 = 1) <;> cases e2 : decide (b % 2 = 1) <;> simp_all
    rw [h4] at h
    have h5 : ¬ (a &&& b) % 2 = 1 := of_decide_eq_false h
    omega
/-- no part lies between a part and the next one -/
theorem part_next (F : Nat) : ∀ (x y : Nat), x &&& F = x → y &&& F = y → y < x → y ≤ (x - 1) &&& F := by
  intro x
  induction x using Nat.strongRecOn generalizing F with
  | _ x ih =>
    intro y hx hy hlt
    have x1 := congrArg (· / 2) hx
    have y1 := congrArg (· / 2) hy
    simp only [and_half] at x1 y1
    have x0 := congrArg (· % 2) hx
    have y0 := congrArg (· % 2) hy
    simp only [and_low] at x0 y0
    have r1 := and_half (x - 1) F
    have r0 := and_low (x - 1) F
    rcases Nat.mod_two_eq_zero_or_one x with e | e
    · have h1 : (x - 1) / 2 = x / 2 - 1 := by omega
      have h2 : (x - 1) % 2 = 1 := by omega
      rw [h1] at r1
      have := ih (x / 2) (by omega) (F / 2) (y / 2) x1 y1 (by omega)
      rw [← r1] at this
      by_cases hf : F % 2 = 1
      · rw [if_pos ⟨h2, hf⟩] at r0; omega
      · have : y % 2 = 0 := by
          rw [if_neg (fun h => hf h.2)] at y0; omega
        omega
    · have h1 : (x - 1) / 2 = x / 2 := by omega
      rw [h1, x1] at r1
      omega
theorem part_sub (F x : Nat) : (x &&& F) &&& F = x &&& F := by rw [Nat.and_assoc, Nat.and_self]
theorem part_lt {F x : Nat} (h : 0 < x) : (x - 1) &&& F < x := by
  have : (x - 1) &&& F ≤ x - 1 := Nat.and_le_left
  omega
end Go.Proofs.Ytedopalmfakeaaa
namespace Go.Proofs.Ytedopalmfakeaaa
set_option linter.unusedSimpArgs false
set_option linter.unusedVariables false
/-! ## rows of the table and states (plain) -/
/-- the mask of events of a row -/
def widN (n : Nat) (ev : Nat → Nat) (s : Nat) : Nat := mskE ev (fun k => s.testBit k) n
/-- the row of a mask of events -/
def narN (n : Nat) (ev : Nat → Nat) (m : Nat) : Nat := mskE (fun k => k) (fun k => m.testBit (ev k)) n
section
variable {S n : Nat} {ev : Nat → Nat} {c : Cn}
theorem narN_bit (n : Nat) (ev : Nat → Nat) (m k : Nat) : (narN n ev m).testBit k = (decide (k < n) && m.testBit (ev k)) := by
  unfold narN
  have h : (mskE (fun k => k) (fun k => m.testBit (ev k)) n).testBit k = true ↔ k < n ∧ m.testBit (ev k) = true := by
    rw [mskE_bit]
    exact ⟨fun ⟨j, h1, h2, h3⟩ => by subst h3; exact ⟨h1, h2⟩, fun ⟨h1, h2⟩ => ⟨k, h1, h2, rfl⟩⟩
  cases e : (mskE (fun k => k) (fun k => m.testBit (ev k)) n).testBit k
  · cases e2 : decide (k < n) && m.testBit (ev k)
    · rfl
    · rw [Bool.and_eq_true, decide_eq_true_eq] at e2
      rw [h.2 e2] at e; cases e
  · have := h.1 e
    rw [decide_eq_true this.1, this.2]; rfl
theorem narN_lt (n : Nat) (ev : Nat → Nat) (m : Nat) : narN n ev m < 2 ^ n := by
  refine Nat.lt_pow_two_of_testBit _ fun i hi => ?_
  rw [narN_bit, decide_eq_false (by omega)]; rfl
theorem widN_bit (h : Evs S n ev) {s k : Nat} (hk : k < n) : (widN n ev s).testBit (ev k) = s.testBit k := h.msk hk
theorem widN_sub (h : Evs S n ev) (s : Nat) : ∀ i, (widN n ev s).testBit i = true → S.testBit i = true := h.sub _
theorem bit_lt {s n k : Nat} (hs : s < 2 ^ n) (h : s.testBit k = true) : k < n := by
  rcases Nat.lt_or_ge k n with h1 | h1
  · exact h1
  · rw [Nat.testBit_lt_two_pow (Nat.lt_of_lt_of_le hs (Nat.pow_le_pow_right (by omega) h1))] at h; cases h
theorem wid_nar (h : Evs S n ev) {m : Nat} (hm : ∀ i, m.testBit i = true → S.testBit i = true) : widN n ev (narN n ev m) = m :=
  h.ext (widN_sub h _) hm fun k hk => by rw [widN_bit h hk, narN_bit, decide_eq_true hk]; rfl
/-- the rows of a cube: those with all its failed events, and none that works -/
theorem row_in (h : Evs S n ev) (hc : inS S c) {s : Nat} (hs : s < 2 ^ n) : hoN c (widN n ev s) = true ↔ (∀ k, (narN n ev c.1).testBit k = true → s.testBit k = true) ∧ ∀ k, (narN n ev c.2).testBit k = true → s.testBit k = false := by
  rw [hoN_iff]
  constructor
  · intro hh
    refine ⟨fun k hk => ?_, fun k hk => ?_⟩
    · rw [narN_bit, Bool.and_eq_true, decide_eq_true_eq] at hk
      rw [← widN_bit h hk.1]; exact (hh _).1 hk.2
    · rw [narN_bit, Bool.and_eq_true, decide_eq_true_eq] at hk
      rw [← widN_bit h hk.1]; exact (hh _).2 hk.2
  · rintro ⟨h1, h2⟩ i
    refine ⟨fun hi => ?_, fun hi => ?_⟩
    · obtain ⟨k, hk, rfl⟩ := (h.iff i).1 (hc i (.inl hi))
      rw [widN_bit h hk]
      exact h1 k (by rw [narN_bit, decide_eq_true hk, hi]; rfl)
    · obtain ⟨k, hk, rfl⟩ := (h.iff i).1 (hc i (.inr hi))
      rw [widN_bit h hk]
      exact h2 k (by rw [narN_bit, decide_eq_true hk, hi]; rfl)
/-- an implicant by the rows of its table -/
theorem imp_rows (h : Evs S n ev) {V : Nat → Bool} (hc : inS S c) : impN S V c ↔ ∀ s, s < 2 ^ n → hoN c (widN n ev s) = true → V (widN n ev s) = true := by
  constructor
  · exact fun hi s _ hh => hi _ (widN_sub h s) hh
  · intro hr t ht hh
    have e := wid_nar h ht
    rw [← e] at hh ⊢
    exact hr _ (narN_lt n ev t) hh
end
end Go.Proofs.Ytedopalmfakeaaa
namespace Go.Proofs.Ytedopalmfakeaaa
open Go.RowKit Go.Sort
set_option linter.unusedSimpArgs false
set_option linter.unusedVariables false
set_option maxRecDepth 20000
/-! ## package cube: compare -/
theorem c3_Z (x y : Nat) : c3 x y = cmpZ (x : Int) (y : Int) := by
  unfold c3 cmpZ
  split <;> split <;> (try split) <;> (try split) <;> first | rfl | omega
theorem cfN_or (a b : Cn) : cfN a b = orI [cmpZ (szN a : Nat) (szN b : Nat), cmpZ a.1 b.1, cmpZ a.2 b.2] := by
  unfold cfN
  rw [c3_Z, c3_Z, c3_Z]
  generalize cmpZ _ _ = x
  generalize cmpZ _ _ = y
  generalize cmpZ _ _ = z
  simp only [orI]
  by_cases hx : x = 0
  · simp only [hx, ne_eq, not_true_eq_false, if_false, if_true]
    by_cases hy : y = 0
    · simp only [hy, ne_eq, not_true_eq_false, if_false, if_true]
      by_cases hz : z = 0 <;> simp [hz]
    · simp [hy]
  · simp [hx]
theorem szN_pop {a : Cn} (h : okN a) : popc (a.1 ||| a.2) = szN a := popc_or (fun i => tb0 h.2.2 i) 24
attribute [local irreducible] pop popc
theorem okN_or {a : Cn} (h : okN a) : a.1 ||| a.2 < 16777216 := or_lt24 h.1 h.2.1
theorem cmpOr3_any (g : Nat) (x y z : Int) (w : World) (h0 : w.cell? ⟨g, 0, none⟩ = some (.int .i64 x)) (h1 : w.cell? ⟨g, 1, none⟩ = some (.int .i64 y)) (h2 : w.cell? ⟨g, 2, none⟩ = some (.int .i64 z)) :
    Calls Try.prog 114 #[.slice (some ⟨g, 0, none⟩) 3 3] w fun e w' => e = .returned (.int .i64 (orI [x, y, z])) ∧ w = w' :=
  cmpOr_any g 3 [x, y, z] w (by simp) (by
    intro k hk
    match k, hk with
    | 0, _ => exact h0
    | 1, _ => exact h1
    | 2, _ => exact h2)
theorem tri_cells (w : World) (x y z : Value) (t : TypeId) {g : Nat} (hg : g = w.heap.size) : (w.alloc (.cells #[x, y, z] t)).cell? ⟨g, 0, none⟩ = some x ∧ (w.alloc (.cells #[x, y, z] t)).cell? ⟨g, 1, none⟩ = some y ∧ (w.alloc (.cells #[x, y, z] t)).cell? ⟨g, 2, none⟩ = some z :=
  ⟨(World.cell?_alloc_at _ _ _ _ hg).trans rfl, (World.cell?_alloc_at _ _ _ _ hg).trans rfl, (World.cell?_alloc_at _ _ _ _ hg).trans rfl⟩
theorem tri_cellsD (w : World) (x y z : Value) (t : TypeId) {g : Nat} (hg : g = w.heap.size) : (w.alloc (.cells #[x, y, z] t)).drew.cell? ⟨g, 0, none⟩ = some x ∧ (w.alloc (.cells #[x, y, z] t)).drew.cell? ⟨g, 1, none⟩ = some y ∧ (w.alloc (.cells #[x, y, z] t)).drew.cell? ⟨g, 2, none⟩ = some z := tri_cells w x y z t hg
end Go.Proofs.Ytedopalmfakeaaa
namespace Go.Proofs.Ytedopalmfakeaaa
open Go.RowKit
set_option linter.unusedSimpArgs false
set_option linter.unusedVariables false
/-! ## storing into an own row of cubes; insertion by place (plain) -/
theorem cbs_set : ∀ (l : List Cb) (k : Nat) (x : Cb), ((cbs l).set (k * 2) (.int .i64 x.1)).set (k * 2 + 1) (.int .i64 x.2) = cbs (l.set k x)
  | [], k, x => by simp [cbs]
  | c :: l, 0, x => by simp [cbs, cbc]
  | c :: l, k + 1, x => by
    have := cbs_set l k x
    have e1 : cbs (c :: l) = .int .i64 c.1 :: .int .i64 c.2 :: cbs l := rfl
    have e2 : (c :: l).set (k + 1) x = c :: l.set k x := rfl
    have e3 : cbs (c :: l.set k x) = .int .i64 c.1 :: .int .i64 c.2 :: cbs (l.set k x) := rfl
    rw [e1, e2, e3, show (k + 1) * 2 = k * 2 + 1 + 1 by omega, List.set_cons_succ, List.set_cons_succ, List.set_cons_succ, List.set_cons_succ, this]
section
variable {w : World} {base g c : Nat} {l : List Cb}
theorem OwC.put (h : OwC w base (some ⟨g, 0, none⟩) c l) (k : Nat) (x : Cb) :
    OwC ((w.setCell ⟨g, k * 2, none⟩ (.int .i64 x.1)).setCell ⟨g, k * 2 + 1, none⟩ (.int .i64 x.2)) base (some ⟨g, 0, none⟩) c (l.set k x) ∧
    w.grownBy ((w.setCell ⟨g, k * 2, none⟩ (.int .i64 x.1)).setCell ⟨g, k * 2 + 1, none⟩ (.int .i64 x.2)) (some g) := by
  unfold OwC at h
  obtain ⟨s0, t0⟩ := World.ownsRow.stored h (k * 2) (.int .i64 x.1)
  obtain ⟨s1, t1⟩ := World.ownsRow.stored s0 (k * 2 + 1) (.int .i64 x.2)
  rw [cbs_set] at s1
  refine ⟨?_, ?_⟩
  · unfold OwC
    rw [List.length_set]
    exact s1
  · exact ⟨t1.os.trans t0.os, t1.tape.trans t0.tape, t1.output.trans t0.output, Nat.le_trans t0.size t1.size, fun i hi hne => (t1.block i (Nat.lt_of_lt_of_le hi t0.size) hne).trans (t0.block i hi hne)⟩
theorem OwC.frozen (h : OwC w base (some ⟨g, 0, none⟩) c l) (k : Nat) : w.frozen? ⟨g, k, none⟩ = false := World.ownsRow.frozenAt h k
theorem OwC.cells (h : OwC w base (some ⟨g, 0, none⟩) c l) {k : Nat} {x : Cb} (hk : l[k]? = some x) : w.cell? ⟨g, k * 2, none⟩ = some (.int .i64 x.1) ∧ w.cell? ⟨g, k * 2 + 1, none⟩ = some (.int .i64 x.2) := by
  obtain ⟨b, off, e, _, h1, h2⟩ := h.rd.at_ hk
  injection e with e
  injection e with e1 e2
  subst e1 e2
  rw [Nat.zero_add] at h1 h2
  exact ⟨h1, h2⟩
theorem OwC.blk {A : Option Addr} (h : OwC w base A c l) (hl : l ≠ []) : ∃ g, A = some ⟨g, 0, none⟩ ∧ base ≤ g ∧ g < w.heap.size := by
  rcases h.2 with ⟨e, h0⟩ | ⟨g, cap, cur, e, hb, hg, -⟩
  · injection e with e1 e2
    exact absurd (List.eq_nil_of_length_eq_zero (by omega)) hl
  · injection e with e1 e2 e3
    exact ⟨g, e1, hb, (Array.getElem?_eq_some_iff.1 hg).1⟩
end
/-! ### insertion by place -/
section
variable {α : Type} [DecidableEq α] {lt : α → α → Bool}
theorem insD_same (c : α) : ∀ (s : List α) (t : Nat) (ht : t < s.length), (∀ j (hj : j < t), lt (s[j]'(by omega)) c = true) → lt s[t] c = false → s[t] = c → insD lt c s = s
  | [], t, ht, _, _, _ => by simp at ht
  | x :: s, 0, ht, h1, h2, h3 => by
    simp only [List.getElem_cons_zero] at h2 h3
    unfold insD
    rw [if_neg (by simp [h2]), if_pos h3]
  | x :: s, t + 1, ht, h1, h2, h3 => by
    have h0 := h1 0 (by omega)
    simp only [List.getElem_cons_zero] at h0
    simp only [List.getElem_cons_succ] at h2 h3
    unfold insD
    rw [if_pos h0, insD_same c s t (by simpa using ht) (fun j hj => by have := h1 (j + 1) (by omega); simpa using this) h2 h3]
theorem insD_new (c : α) : ∀ (s : List α) (t : Nat) (ht : t ≤ s.length), (∀ j (hj : j < t), lt (s[j]'(by omega)) c = true) → (∀ h : t < s.length, lt s[t] c = false ∧ s[t] ≠ c) → insD lt c s = s.take t ++ c :: s.drop t
  | [], t, ht, _, _ => by
    have : t = 0 := by simpa using ht
    subst this
    rfl
  | x :: s, 0, ht, h1, h2 => by
    obtain ⟨h2, h3⟩ := h2 (by simp)
    simp only [List.getElem_cons_zero] at h2 h3
    unfold insD
    rw [if_neg (by simp [h2]), if_neg h3]
    rfl
  | x :: s, t + 1, ht, h1, h2 => by
    have h0 := h1 0 (by omega)
    simp only [List.getElem_cons_zero] at h0
    unfold insD
    rw [if_pos h0, insD_new c s t (by simpa using ht) (fun j hj => by have := h1 (j + 1) (by omega); simpa using this) (fun h => by have := h2 (by simpa using h); simpa using this)]
    rfl
end
/-- the row while elements move up: place k is free -/
def gap {α : Type} (s : List α) (k : Nat) (y : α) : List α := s.take k ++ y :: s.drop k
theorem gap_len {α : Type} (s : List α) {k : Nat} (y : α) (hk : k ≤ s.length) : (gap s k y).length = s.length + 1 := by
  simp [gap]; omega
theorem gap_end {α : Type} (s : List α) (y : α) : gap s s.length y = s ++ [y] := by simp [gap]
theorem gap_at {α : Type} (s : List α) {k : Nat} (y : α) (hk : k + 1 ≤ s.length) : (gap s (k + 1) y)[k]? = s[k]? := by
  unfold gap
  rw [List.getElem?_append_left (by simp; omega), List.getElem?_take, if_pos (by omega)]
theorem gap_here {α : Type} (s : List α) {k : Nat} (y : α) (hk : k ≤ s.length) : (gap s k y)[k]? = some y := by
  unfold gap
  rw [List.getElem?_append_right (by simp; omega)]
  simp [Nat.min_eq_left hk]
theorem gap_set {α : Type} (s : List α) {k : Nat} (y x : α) (hk : k ≤ s.length) : (gap s k y).set k x = gap s k x := by
  unfold gap
  rw [List.set_append_right _ _ (by simp; omega)]
  simp [Nat.min_eq_left hk]
theorem gap_move {α : Type} (s : List α) {k : Nat} (hk : k < s.length) : gap s (k + 1) s[k] = gap s k s[k] := by
  unfold gap
  have e1 : s.take (k + 1) = s.take k ++ [s[k]] := List.take_succ_eq_append_getElem hk
  have e2 : s.drop k = s[k] :: s.drop (k + 1) := List.drop_eq_getElem_cons hk
  rw [e1, e2, List.append_assoc]
  rfl
end Go.Proofs.Ytedopalmfakeaaa
namespace Go.Proofs.Ytedopalmfakeaaa
open Go.RowKit Go.Lib Go.Sort Go.Shelf
set_option linter.unusedSimpArgs false
set_option linter.unusedVariables false
/-! ## slices.SortFunc at cubes -/
theorem own_put {w : World} {base g c n k : Nat} {e : TypeId} {xs : List Value} (h : w.ownsRow base e k (.slice (some ⟨g, 0, none⟩) n c) n xs) (F : Array Value) (hF : F.size = n * k) (q : Nat) (os : Array Obj) :
    (grow (putRow id (Sort.ahead w q) g 0 F) os).ownsRow base e k (.slice (some ⟨g, 0, none⟩) n c) n F.toList ∧ Below base w (grow (putRow id (Sort.ahead w q) g 0 F) os) := by
  rcases h.2 with ⟨e1, _⟩ | ⟨g', cap, cur, e1, hb, hg, hnc, hcm, hsz, htk⟩
  · injection e1 with e1; cases e1
  · injection e1 with e1 e2 e3
    injection e1 with e1
    injection e1 with e1
    subst e1 e3
    have hlt : g < w.heap.size := (Array.getElem?_eq_some_iff.1 hg).1
    refine ⟨⟨by simp [hF], .inr ⟨g, c, putCells id 0 F cur, rfl, hb, ?_, hnc, hcm, by simp [putCells, hsz], ?_⟩⟩, rfl, rfl, rfl, ?_, fun i hi => ?_⟩
    · show ((w.heap.modify g (onCells (putCells id 0 F))) ++ os)[g]? = _
      rw [Array.getElem?_append_left (by simpa using hlt), Array.getElem?_modify, if_pos rfl, hg]
      rfl
    · apply List.ext_getElem?
      intro j
      by_cases hj : j < n * k
      · have hjc : j < cur.size := by
          rw [hsz]
          exact Nat.lt_of_lt_of_le hj (Nat.mul_le_mul_right _ hnc)
        rw [List.getElem?_take, if_pos hj, List.getElem?_eq_getElem (by simpa [putCells] using hjc), List.getElem?_eq_getElem (by simpa [hF] using hj)]
        simp only [putCells, Array.getElem_toList, Array.getElem_mapIdx]
        rw [if_pos ⟨Nat.zero_le _, by omega⟩]
        simp only [Nat.sub_zero, id]
        rw [getElem!_pos F j (by omega)]
      · rw [List.getElem?_take, if_neg hj, List.getElem?_eq_none (by simp [hF]; omega)]
    · show w.heap.size ≤ ((w.heap.modify g (onCells (putCells id 0 F))) ++ os).size
      simp
    · show ((w.heap.modify g (onCells (putCells id 0 F))) ++ os)[i]? = w.heap[i]?
      rw [Array.getElem?_append_left (by simp; omega), Array.getElem?_modify, if_neg (by omega)]
/-- the cells of a cube in the sort's contract -/
abbrev Ok1 := { a : Cn // okN a }
instance : Inhabited Ok1 := ⟨⟨(0, 0), by unfold okN; decide⟩⟩
def encO (a : Ok1) : List Value := cbc (zc a.1)
theorem flat_cbs (d : Array Ok1) : (flatK encO 2 d).toList = cbs (d.toList.map fun a => zc a.1) := by
  apply List.ext_getElem?
  intro t
  by_cases ht : t < d.size * 2
  · have hk : t / 2 < d.size := by omega
    have hm : (d.toList.map fun a : Ok1 => zc a.1)[t / 2]? = some (zc d[t / 2].1) := by simp [hk]
    obtain ⟨h0, h1⟩ := cbs_get _ _ _ hm
    have e1 : (flatK encO 2 d).toList[t]? = some (encO d[t / 2])[t % 2]! := by
      rw [List.getElem?_eq_getElem (by simpa using ht)]
      have := get_flatK encO 2 d t ht
      rw [getElem!_pos (flatK encO 2 d) t (by simpa using ht)] at this
      rw [Array.getElem_toList, this, getElem!_pos d (t / 2) hk]
    rw [e1]
    generalize d[t / 2] = x at *
    rcases Nat.mod_two_eq_zero_or_one t with h2 | h2
    · have e2 : t / 2 * 2 = t := by omega
      rw [e2] at h0
      rw [h0, h2]
      rfl
    · have e2 : t / 2 * 2 + 1 = t := by omega
      rw [e2] at h1
      rw [h1, h2]
      rfl
  · rw [List.getElem?_eq_none (by simpa using ht), List.getElem?_eq_none (by rw [cbs_length]; simp; omega)]
theorem ltOf_cf (a b : Ok1) : ltOf (fun x y : Ok1 => cfN x.1 y.1) a b = ltN a.1 b.1 := cfN_lt a.1 b.1
theorem ltO_swo : SWO (ltOf fun x y : Ok1 => cfN x.1 y.1) where
  irrefl x := by rw [ltOf_cf]; exact ltN_o.irr _
  trans x y z h1 h2 := by rw [ltOf_cf] at *; exact ltN_o.tr _ _ _ h1 h2
  ntrans x y z h1 h2 := by
    rw [ltOf_cf] at *
    by_cases h3 : ltN x.1 z.1 = true
    · by_cases e : x.1 = y.1
      · rw [e, h2] at h3; cases h3
      · rcases ltN_o.tot _ _ e with h4 | h4
        · rw [h1] at h4; cases h4
        · have := ltN_o.tr _ _ _ h4 h3
          rw [h2] at this; cases this
    · simpa using h3
/-- what a list of cubes is when it is sorted -/
def srtC (l : List Cn) (s : List Cn) : Prop := s.Perm l ∧ s.Pairwise (fun a b => ltN b a = false)
/-- a comparison of cubes -/
def CmpC (g : FuncId) : Prop := ∀ (a b : Cn) (w : World), okN a → okN b → Calls Try.prog g #[cbv (zc a), cbv (zc b)] w fun e w' => e = .returned (.int .i64 (cfN a b)) ∧ ∃ q os, w' = grow (w.drewN q) os
theorem sort_any {w : World} {base cap : Nat} {l : List Cn} {A : Option Addr} (f : FuncId) (hf : CmpC f) (eg : ∀ args w, (callFunc f args).run Try.prog w = .ok (.enter f args) w)
    (hok : ∀ a ∈ l, okN a) (ho : OwC w base A cap (l.map zc)) (hn : l.length ≤ 1000000) :
    Calls Try.prog 112 #[.slice A l.length cap, .func (.func f) #[] #[]] w fun e w' => e = .returned (.tuple #[]) ∧ ∃ s, srtC l s ∧ OwC w' base A cap (s.map zc) ∧ Below base w w' := by
  rcases Nat.eq_zero_or_pos l.length with h0 | hpos
  · rw [h0]
    have hl : l = [] := List.eq_nil_of_length_eq_zero h0
    subst hl
    exact (AnyF.slices_SortFunc_none Try.sortC A cap (.func (.func f) #[] #[]) w).mono fun e w' ⟨he, hw⟩ => ⟨he, [], ⟨List.Perm.refl _, List.Pairwise.nil⟩, by rw [hw]; exact ho, by rw [hw]; exact Below.refl _ _⟩
  · obtain ⟨gg, rfl, hb, hlt⟩ := ho.blk (by intro e; rw [List.map_eq_nil_iff] at e; rw [e] at hpos; simp at hpos)
    have hO : OwC w base (some ⟨gg, 0, none⟩) cap (l.map zc) := ho
    unfold OwC at ho
    rw [List.length_map] at ho
    obtain ⟨d, hd⟩ : ∃ d : Array Ok1, d = (l.pmap (fun a h => (⟨a, h⟩ : Ok1)) hok).toArray := ⟨_, rfl⟩
    have hds : d.size = l.length := by rw [hd]; simp
    have hdl : d.toList.map (fun a => a.1) = l := by rw [hd]; simp [List.map_pmap]
    have hdz : d.toList.map (fun a => zc a.1) = l.map zc := by rw [← hdl, List.map_map]; rfl
    have hH : HoldsK encO 2 w gg 0 d := fun j hj => by
      rw [size_flatK] at hj
      refine ⟨?_, World.ownsRow.frozenAt ho _⟩
      rw [Nat.zero_add]
      show w.cell? ⟨gg, j, none⟩ = some (flatK encO 2 d)[j]!
      rw [World.ownsRow.cellAt ho j (by rw [← hds]; omega), ← hdz, ← flat_cbs, getElem!_pos (flatK encO 2 d) j (by simpa using hj), List.getElem?_eq_getElem (by simpa using hj), Array.getElem_toList]
    have hcmp : CmpLays Try.prog f #[] encO 2 (fun x y : Ok1 => cfN x.1 y.1) gg 0 d.size w := fun m os dk _ x y => hf x.1 y.1 _ x.2 y.2
    have hT : ∀ x y : Ok1, (ltOf fun x y : Ok1 => cfN x.1 y.1) x y = false → (ltOf fun x y : Ok1 => cfN x.1 y.1) y x = false → x = y := fun x y h1 h2 => by
      rw [ltOf_cf] at h1 h2
      refine Subtype.ext (Classical.byContradiction fun hne => ?_)
      rcases ltN_o.tot _ _ hne with h | h
      · rw [h1] at h; cases h
      · rw [h2] at h; cases h
    have hcon := AnyQ.slices_SortFunc_total Try.sortC 2 Try.isAgg23 Try.sizeOf23 encO (fun _ => rfl) (fun x v hv => by simp [encO, cbc] at hv; rcases hv with rfl | rfl <;> rfl) (fun x y : Ok1 => cfN x.1 y.1) ltO_swo f #[] gg 0 cap d w eg hcmp hH hlt (by omega) hT
    rw [hds] at hcon
    change Calls Try.prog 112 _ _ _ at hcon
    refine hcon.mono fun e w' ⟨he, q, os, hw⟩ => ⟨he, ?_⟩
    obtain ⟨m, hm⟩ : ∃ m, m = d.toList.mergeSort fun x y => !(ltOf fun x y : Ok1 => cfN x.1 y.1) y x := ⟨_, rfl⟩
    rw [← hm] at hw
    have hmp : m.Perm d.toList := by rw [hm]; exact List.mergeSort_perm _ _
    have hml : m.length = l.length := by rw [hmp.length_eq]; simpa using hds
    have hms : m.Pairwise fun x y => ltN y.1 x.1 = false := by
      have := List.pairwise_mergeSort (le := fun x y => !(ltOf fun x y : Ok1 => cfN x.1 y.1) y x) (fun a b c h1 h2 => by
        simp only [Bool.not_eq_true'] at *
        exact ltO_swo.ntrans _ _ _ h2 h1) (fun a b => by
        simp only [Bool.or_eq_true, Bool.not_eq_true']
        rw [ltOf_cf, ltOf_cf]
        cases h : ltN b.1 a.1
        · exact .inl rfl
        · exact .inr (ltN_o.as h)) d.toList
      rw [← hm] at this
      refine this.imp fun h => ?_
      simpa [ltOf_cf] using h
    have hfl : (flatK encO 2 m.toArray).toList = cbs ((m.map fun a => a.1).map zc) := by
      rw [flat_cbs, List.map_map]; rfl
    obtain ⟨r1, r2⟩ := own_put ho (flatK encO 2 m.toArray) (by simp [hml]) q os
    refine ⟨m.map fun a => a.1, ⟨?_, ?_⟩, ?_, ?_⟩
    · have := hmp.map fun a => a.1
      rwa [hdl] at this
    · rw [List.pairwise_map]; exact hms
    · rw [hw]
      unfold OwC sortWorldK putRowK
      rw [List.length_map, List.length_map, hml, ← hfl]
      exact r1
    · rw [hw]
      unfold sortWorldK putRowK
      exact r2
end Go.Proofs.Ytedopalmfakeaaa
namespace Go.Proofs.Ytedopalmfakeaaa
set_option linter.unusedSimpArgs false
set_option linter.unusedVariables false
/-! ## the rows of a cube, part by part (plain) -/
theorem ndiff_half (x y : Nat) : ndiff x y / 2 = ndiff (x / 2) (y / 2) := by
  apply Nat.eq_of_testBit_eq
  intro i
  rw [← Nat.testBit_succ, testBit_ndiff, testBit_ndiff, ← Nat.testBit_succ, ← Nat.testBit_succ]
theorem ndiff_add : ∀ (k x y : Nat), x < 2 ^ k → (∀ i, y.testBit i = true → x.testBit i = true) → ndiff x y + y = x
  | 0, x, y, hx, h => by
    have hx0 : x = 0 := by simpa using hx
    subst hx0
    have hy0 : y = 0 := (zero_iff y).2 fun i => by
      cases hb : y.testBit i
      · rfl
      · have := h i hb; simp at this
    subst hy0
    rfl
  | k + 1, x, y, hx, h => by
    have ih := ndiff_add k (x / 2) (y / 2) (by rw [Nat.pow_succ] at hx; omega) fun i hi => by
      rw [← Nat.testBit_succ] at hi ⊢
      exact h (i + 1) hi
    have e1 := ndiff_half x y
    have e2 : (ndiff x y).testBit 0 = (x.testBit 0 && !y.testBit 0) := testBit_ndiff x y 0
    rw [Nat.testBit_zero, Nat.testBit_zero, Nat.testBit_zero] at e2
    have e3 := h 0
    rw [Nat.testBit_zero, Nat.testBit_zero] at e3
    have hx2 : x % 2 = 0 ∨ x % 2 = 1 := by omega
    have hy2 : y % 2 = 0 ∨ y % 2 = 1 := by omega
    have hn2 : ndiff x y % 2 = 0 ∨ ndiff x y % 2 = 1 := by omega
    rcases hx2 with a | a <;> rcases hy2 with b | b <;> rcases hn2 with d | d <;> simp [a, b, d] at e2 e3 <;> omega
/-- what is free: the events that neither fail nor work -/
def freN (n y z : Nat) : Nat := ndiff (ndiff (2 ^ n - 1) y) z
theorem freN_bit (n y z i : Nat) : (freN n y z).testBit i = (decide (i < n) && !y.testBit i && !z.testBit i) := by
  unfold freN
  rw [testBit_ndiff, testBit_ndiff, Nat.testBit_two_pow_sub_one]
theorem freN_sub {n y z : Nat} (hy : y < 2 ^ n) (hz : z < 2 ^ n) (hd : ∀ i, ¬ (y.testBit i = true ∧ z.testBit i = true)) : 2 ^ n - 1 = freN n y z + y + z := by
  have hb : ∀ {x}, x < 2 ^ n → ∀ i, x.testBit i = true → i < n := fun hx i hi => by
    rcases Nat.lt_or_ge i n with h | h
    · exact h
    · rw [Nat.testBit_lt_two_pow (Nat.lt_of_lt_of_le hx (Nat.pow_le_pow_right (by omega) h))] at hi; cases hi
  have h1 := ndiff_add n (2 ^ n - 1) y (by have := Nat.two_pow_pos n; omega) fun i hi => by
    rw [Nat.testBit_two_pow_sub_one]; simpa using hb hy i hi
  have h2 := ndiff_add n (ndiff (2 ^ n - 1) y) z (ndiff_lt (by have := Nat.two_pow_pos n; omega)) fun i hi => by
    rw [testBit_ndiff, Nat.testBit_two_pow_sub_one]
    have h3 : y.testBit i = false := by
      cases h : y.testBit i
      · rfl
      · exact absurd ⟨h, hi⟩ (hd i)
    simp [hb hz i hi, h3]
  unfold freN
  omega
/-- the rows of a cube (y, z) -/
def CR (n y z r : Nat) : Prop := r < 2 ^ n ∧ hoN (y, z) r = true
section
variable {n y z x r : Nat}
theorem freN_lt : freN n y z < 2 ^ n := by
  unfold freN
  exact ndiff_lt (ndiff_lt (by have := Nat.two_pow_pos n; omega))
theorem part_bit (hx : x &&& freN n y z = x) {i : Nat} (h : x.testBit i = true) : i < n ∧ y.testBit i = false ∧ z.testBit i = false := by
  rw [← hx, Nat.testBit_and, freN_bit] at h
  simp at h
  exact ⟨h.2.1.1, by simpa using h.2.1.2, by simpa using h.2.2⟩
theorem CR_part (hy : y < 2 ^ n) (hd : ∀ i, ¬ (y.testBit i = true ∧ z.testBit i = true)) (hx : x &&& freN n y z = x) : CR n y z (y ||| x) ∧ (y ||| x) &&& freN n y z = x := by
  have hxl : x < 2 ^ n := by rw [← hx]; exact Nat.lt_of_le_of_lt Nat.and_le_right freN_lt
  refine ⟨⟨Nat.or_lt_two_pow hy hxl, (hoN_iff _ _).2 fun i => ⟨fun h => by rw [Nat.testBit_or, show y.testBit i = true from h]; rfl, fun h => ?_⟩⟩, ?_⟩
  · rw [Nat.testBit_or]
    have h1 : y.testBit i = false := by
      cases hb : y.testBit i
      · rfl
      · exact absurd ⟨hb, h⟩ (hd i)
    cases hb : x.testBit i
    · rw [h1]; rfl
    · have h2 : z.testBit i = true := h
      rw [(part_bit hx hb).2.2] at h2; cases h2
  · apply Nat.eq_of_testBit_eq
    intro i
    rw [Nat.testBit_and, Nat.testBit_or]
    cases hb : x.testBit i
    · rw [freN_bit]
      cases y.testBit i <;> simp
    · have h1 := part_bit hx hb
      rw [freN_bit]
      simp [h1.1, h1.2.1, h1.2.2]
theorem CR_eq (h : CR n y z r) : r = y ||| (r &&& freN n y z) := by
  have h2 := (hoN_iff _ _).1 h.2
  apply Nat.eq_of_testBit_eq
  intro i
  rw [Nat.testBit_or, Nat.testBit_and, freN_bit]
  cases hb : r.testBit i
  · cases hy : y.testBit i
    · simp
    · have := (h2 i).1 hy
      rw [hb] at this; cases this
  · have hi : i < n := bit_lt h.1 hb
    cases hy : y.testBit i
    · have hz : z.testBit i = false := by
        cases hz : z.testBit i
        · rfl
        · have := (h2 i).2 hz
          rw [hb] at this; cases this
      simp [hi, hz]
    · simp
/-- what has been seen when the part x is looked at -/
def Seen (n y z x r : Nat) : Prop := CR n y z r ∧ x < r &&& freN n y z
theorem seen_first (hy : y < 2 ^ n) : (fun r => Seen n y z (freN n y z) r) = fun _ => False := by
  funext r
  rw [eq_iff_iff, iff_false]
  rintro ⟨_, h⟩
  have : r &&& freN n y z ≤ freN n y z := Nat.and_le_right
  omega
theorem seen_step (hy : y < 2 ^ n) (hd : ∀ i, ¬ (y.testBit i = true ∧ z.testBit i = true)) (hx : x &&& freN n y z = x) : (fun r => Seen n y z x r ∨ r = (y ||| x)) = fun r => CR n y z r ∧ x ≤ r &&& freN n y z := by
  funext r
  rw [eq_iff_iff]
  constructor
  · rintro (⟨h1, h2⟩ | rfl)
    · exact ⟨h1, by omega⟩
    · obtain ⟨h1, h2⟩ := CR_part hy hd hx
      exact ⟨h1, by rw [h2]; exact Nat.le_refl _⟩
  · rintro ⟨h1, h2⟩
    rcases Nat.lt_or_ge x (r &&& freN n y z) with h3 | h3
    · exact .inl ⟨h1, h3⟩
    · refine .inr ?_
      have e : r &&& freN n y z = x := by omega
      rw [CR_eq h1, e]
theorem seen_not (hy : y < 2 ^ n) (hd : ∀ i, ¬ (y.testBit i = true ∧ z.testBit i = true)) (hx : x &&& freN n y z = x) : ¬ Seen n y z x (y ||| x) := by
  rintro ⟨_, h⟩
  rw [(CR_part hy hd hx).2] at h
  omega
theorem seen_next (hx : x &&& freN n y z = x) (h0 : 0 < x) : (fun r => CR n y z r ∧ x ≤ r &&& freN n y z) = fun r => Seen n y z ((x - 1) &&& freN n y z) r := by
  funext r
  rw [eq_iff_iff]
  constructor
  · rintro ⟨h1, h2⟩
    have := part_lt (F := freN n y z) h0
    exact ⟨h1, by omega⟩
  · rintro ⟨h1, h2⟩
    refine ⟨h1, ?_⟩
    rcases Nat.lt_or_ge (r &&& freN n y z) x with h3 | h3
    · have := part_next (freN n y z) x (r &&& freN n y z) hx (part_sub _ _) h3
      omega
    · exact h3
theorem seen_last : (fun r => CR n y z r ∧ 0 ≤ r &&& freN n y z) = CR n y z := by
  funext r
  simp
end
end Go.Proofs.Ytedopalmfakeaaa
namespace Go.Proofs.Ytedopalmfakeaaa
set_option linter.unusedSimpArgs false
set_option linter.unusedVariables false
/-! ## essential primes, and an irredundant cover (plain) -/
section
variable {S : Nat} {l : List Cn} {c : Cn}
theorem covB_iff (hc : okN c) : covB l c = true ↔ ∀ t, t < 16777216 → hoN c t = true → anyN l t = true := by
  unfold covB cntC
  rw [beq_iff_eq]
  show cnt 24 _ _ = 2 ^ pop 24 _ ↔ _
  rw [cnt_full]
  have hT : ∀ i, i < 24 → (16777215 : Nat).testBit i = true := by decide +kernel
  have hfr : ∀ i, (frT 16777215 c).testBit i = ((16777215 : Nat).testBit i && !(c.1.testBit i || c.2.testBit i)) := fun i => by
    unfold frT; rw [testBit_ndiff, Nat.testBit_or]
  constructor
  · intro h t ht hh
    have hb := (hoN_iff _ _).1 hh
    have h1 := h (ndiff t c.1) fun i hi => by
      rw [testBit_ndiff, Bool.and_eq_true, Bool.not_eq_true'] at hi
      have h24 := lt24_bit ht hi.1
      refine ⟨h24, ?_⟩
      rw [hfr, hT i h24, hi.2]
      cases h2 : c.2.testBit i
      · rfl
      · rw [(hb i).2 h2] at hi; cases hi.1
    have e : ndiff t c.1 ||| c.1 = t := by
      apply Nat.eq_of_testBit_eq
      intro i
      rw [Nat.testBit_or, testBit_ndiff]
      cases h2 : c.1.testBit i
      · simp
      · rw [(hb i).1 h2]; rfl
    rw [e] at h1
    exact h1
  · intro h s hs
    refine h _ (or_lt24 ?_ hc.1) ((hoN_iff _ _).2 fun i => ⟨fun h1 => ?_, fun h2 => ?_⟩)
    · refine Nat.lt_pow_two_of_testBit (n := 24) _ fun i hi => ?_
      cases e : s.testBit i
      · rfl
      · have := (hs i e).1; omega
    · rw [Nat.testBit_or, h1]; simp
    · rw [Nat.testBit_or]
      have h3 := ok_bit hc i
      have h4 : s.testBit i = false := by
        cases e : s.testBit i
        · rfl
        · have := (hs i e).2
          rw [hfr, h2] at this
          simp at this
      have h5 : c.1.testBit i = false := by
        cases e : c.1.testBit i
        · rfl
        · exact absurd ⟨e, h2⟩ h3
      rw [h4, h5]; rfl
/-- states count by the events of the support alone -/
theorem hoN_mask (hc : inS S c) (t : Nat) : hoN c (t &&& S) = hoN c t := by
  have key : hoN c (t &&& S) = true ↔ hoN c t = true := by
    rw [hoN_iff, hoN_iff]
    constructor
    · intro h i
      have := h i
      rw [Nat.testBit_and] at this
      refine ⟨fun h1 => ?_, fun h2 => ?_⟩
      · have := this.1 h1; rw [Bool.and_eq_true] at this; exact this.1
      · have h3 := this.2 h2
        rw [hc i (.inr h2), Bool.and_true] at h3
        exact h3
    · intro h i
      rw [Nat.testBit_and]
      refine ⟨fun h1 => ?_, fun h2 => ?_⟩
      · rw [(h i).1 h1, hc i (.inl h1)]; rfl
      · rw [(h i).2 h2]; rfl
  cases h1 : hoN c (t &&& S) <;> cases h2 : hoN c t <;> simp_all
theorem anyN_mask (hl : ∀ d, d ∈ l → inS S d) (t : Nat) : anyN l (t &&& S) = anyN l t := by
  unfold anyN
  induction l with
  | nil => rfl
  | cons d l ih =>
    rw [List.any_cons, List.any_cons, hoN_mask (hl d (by simp)), ih fun x hx => hl x (by simp [hx])]
theorem cov_S (hS : S < 16777216) (hc : okN c) (hcS : inS S c) (hl : ∀ d, d ∈ l → inS S d) : covB l c = true ↔ ∀ t, (∀ i, t.testBit i = true → S.testBit i = true) → hoN c t = true → anyN l t = true := by
  rw [covB_iff hc]
  constructor
  · intro h t ht hh
    refine h t ?_ hh
    refine Nat.lt_pow_two_of_testBit (n := 24) _ fun i hi => ?_
    cases e : t.testBit i
    · rfl
    · have := lt24_bit hS (ht i e); omega
  · intro h t _ hh
    rw [← anyN_mask hl]
    refine h _ (fun i hi => ?_) (by rw [hoN_mask hcS]; exact hh)
    rw [Nat.testBit_and, Bool.and_eq_true] at hi
    exact hi.2
theorem anyN_cnt (l : List Cn) (t : Nat) : anyN l t = true ↔ 0 < inN l t := by
  induction l with
  | nil => simp [anyN, inN]
  | cons d l ih =>
    rw [inN_cons]
    unfold anyN at ih ⊢
    rw [List.any_cons, Bool.or_eq_true, ih]
    cases h : hoN d t
    · simp
    · simp; omega
theorem inN_erase {l : List Cn} {t : Nat} : ∀ {i}, i < l.length → inN l t = inN (l.eraseIdx i) t + if hoN (atN l i) t then 1 else 0 := by
  induction l with
  | nil => intro i h; simp at h
  | cons d l ih =>
    intro i h
    match i, h with
    | 0, _ => rw [inN_cons]; show _ = inN l t + (if hoN d t then 1 else 0); omega
    | i + 1, h =>
      have hi : i < l.length := by simpa using h
      have := ih hi
      rw [inN_cons, List.eraseIdx_cons_succ, inN_cons]
      have e : atN (d :: l) (i + 1) = atN l i := by unfold atN; simp
      rw [e]
      omega
theorem mem_erase {l : List Cn} {i : Nat} {d : Cn} (h : d ∈ l.eraseIdx i) : d ∈ l := List.mem_of_mem_eraseIdx h
/-- each state of a cube of the list is in another one too: the rest covers it -/
theorem rest_covers (hS : S < 16777216) (hl : ∀ d, d ∈ l → okN d ∧ inS S d) {i : Nat} (hi : i < l.length) : covB (l.eraseIdx i) (atN l i) = true ↔ ∀ t, (∀ j, t.testBit j = true → S.testBit j = true) → hoN (atN l i) t = true → 1 < inN l t := by
  have hm := hl _ (atN_mem hi)
  rw [cov_S hS hm.1 hm.2 fun d hd => (hl d (mem_erase hd)).2]
  have e : ∀ t, hoN (atN l i) t = true → (anyN (l.eraseIdx i) t = true ↔ 1 < inN l t) := fun t hh => by
    rw [anyN_cnt, inN_erase (t := t) hi, hh]
    simp
  exact ⟨fun h t ht hh => (e t hh).1 (h t ht hh), fun h t ht hh => (e t hh).2 (h t ht hh)⟩
/-- the reference's essential primes -/
def essN (l : List Cn) : List Cn := ((List.range l.length).filter fun i => !covB (l.eraseIdx i) (atN l i)).map (atN l)
/-- the reference's irredundant cover: what the last i positions leave -/
def irrN : Nat → List Cn → List Cn
  | 0, l => l
  | i + 1, l => irrN i (if covB (l.eraseIdx i) (atN l i) then l.eraseIdx i else l)
theorem atN_erase {l : List Cn} {i k : Nat} (h : k < i) : atN (l.eraseIdx i) k = atN l k := by
  unfold atN
  rw [List.getD_eq_getElem?_getD, List.getD_eq_getElem?_getD, List.getElem?_eraseIdx_of_lt h]
end
end Go.Proofs.Ytedopalmfakeaaa
namespace Go.Proofs.Ytedopalmfakeaaa
set_option linter.unusedSimpArgs false
set_option linter.unusedVariables false
/-! ## what the primes say (plain): P13.2, P13.3, P13.4, P13.6 -/
section
variable {S : Nat} {V : Nat → Bool} {c : Cn}
theorem wi_cut (j : Nat) (c : Cn) : wiN c (cutN j c) = true := (wiN_iff _ _).2 fun i => by
  rw [(cut_bit j c i).1, (cut_bit j c i).2]
  exact ⟨fun h => by simp at h; exact h.1, fun h => by simp at h; exact h.1⟩
/-- every implicant implies a prime -/
theorem imp_prime_ (n : Nat) : ∀ c : Cn, popc (evN c) ≤ n → okN c → inS S c → impN S V c → ∃ p, prmN S V p ∧ wiN c p = true := by
  induction n with
  | zero =>
    intro c hn ho hs hi
    refine ⟨c, ⟨ho, hs, hi, fun j hj => ?_⟩, wiN_o.refl c⟩
    have h1 := popc_cut (S := evN c) (lt24_bit (evN_lt ho) hj) hj
    omega
  | succ n ih =>
    intro c hn ho hs hi
    by_cases hp : prmN S V c
    · exact ⟨c, hp, wiN_o.refl c⟩
    · have hex : ∃ j, (evN c).testBit j = true ∧ impN S V (cutN j c) := by
        refine Classical.byContradiction fun hx => hp ⟨ho, hs, hi, fun j hj hc => hx ⟨j, hj, hc⟩⟩
      obtain ⟨j, hj, hc⟩ := hex
      have h1 := popc_cut (S := evN c) (lt24_bit (evN_lt ho) hj) hj
      rw [← ev_cut] at h1
      obtain ⟨p, h2, h3⟩ := ih (cutN j c) (by omega) (cutN_ok ho j) (inS_cut hs j) hc
      exact ⟨p, h2, wiN_o.tr _ _ _ (wi_cut j c) h3⟩
theorem imp_prime (ho : okN c) (hs : inS S c) (hi : impN S V c) : ∃ p, prmN S V p ∧ wiN c p = true := imp_prime_ _ c (Nat.le_refl _) ho hs hi
/-- a state is in a prime exactly if the formula is true in it -/
theorem prime_holds (hS : S < 16777216) (hV : ∀ t, V (t &&& S) = V t) (t : Nat) : (∃ p, prmN S V p ∧ hoN p t = true) ↔ V t = true := by
  have hsub : ∀ i, (t &&& S).testBit i = true → S.testBit i = true := fun i hi => by
    rw [Nat.testBit_and, Bool.and_eq_true] at hi; exact hi.2
  constructor
  · rintro ⟨p, hp, hh⟩
    rw [← hV]
    exact hp.2.2.1 _ hsub (by rw [hoN_mask hp.2.1]; exact hh)
  · intro hv
    rw [← hV] at hv
    have hk : ∀ i, S.testBit i = true → i < 24 := fun i hi => lt24_bit hS hi
    have hm : minN S (t &&& S) ∈ mintL S 24 V := by
      unfold mintL
      exact List.mem_map.2 ⟨t &&& S, List.mem_filter.2 ⟨stsN_mem.2 fun i hi => ⟨hk i (hsub i hi), hsub i hi⟩, hv⟩, rfl⟩
    have hl := (mint_level hS hk _).1 hm
    obtain ⟨p, h1, h2⟩ := imp_prime hl.ok hl.ins hl.imp
    refine ⟨p, h1, ?_⟩
    rw [← hoN_mask h1.2.1]
    refine hoN_within h2 ((hoN_iff _ _).2 fun i => ⟨id, fun h3 => ?_⟩)
    have h3 : (ndiff S (t &&& S)).testBit i = true := h3
    rw [testBit_ndiff, Bool.and_eq_true, Bool.not_eq_true'] at h3
    exact h3.2
/-- the events of the support of a cube -/
def onS (S : Nat) (c : Cn) : Cn := (c.1 &&& S, c.2 &&& S)
theorem onS_ok (h : okN c) : okN (onS S c) ∧ inS S (onS S c) := by
  refine ⟨⟨Nat.lt_of_le_of_lt Nat.and_le_left h.1, Nat.lt_of_le_of_lt Nat.and_le_left h.2.1, dis fun i => ?_⟩, fun i hi => ?_⟩
  · show ¬ ((c.1 &&& S).testBit i = true ∧ (c.2 &&& S).testBit i = true)
    rw [Nat.testBit_and, Nat.testBit_and, Bool.and_eq_true, Bool.and_eq_true]
    rintro ⟨⟨h1, -⟩, ⟨h2, -⟩⟩
    exact ok_bit h i ⟨h1, h2⟩
  · rcases hi with hi | hi
    · have hi : (c.1 &&& S).testBit i = true := hi
      rw [Nat.testBit_and, Bool.and_eq_true] at hi; exact hi.2
    · have hi : (c.2 &&& S).testBit i = true := hi
      rw [Nat.testBit_and, Bool.and_eq_true] at hi; exact hi.2
theorem wi_onS {p : Cn} (hp : inS S p) : wiN (onS S c) p = wiN c p := by
  have key : wiN (onS S c) p = true ↔ wiN c p = true := by
    rw [wiN_iff, wiN_iff]
    have b : ∀ i, (onS S c).1.testBit i = (c.1.testBit i && S.testBit i) ∧ (onS S c).2.testBit i = (c.2.testBit i && S.testBit i) := fun i => ⟨Nat.testBit_and .., Nat.testBit_and ..⟩
    constructor
    · intro h i
      have := h i
      rw [(b i).1, (b i).2, Bool.and_eq_true, Bool.and_eq_true] at this
      exact ⟨fun h1 => (this.1 h1).1, fun h2 => (this.2 h2).1⟩
    · intro h i
      rw [(b i).1, (b i).2, Bool.and_eq_true, Bool.and_eq_true]
      exact ⟨fun h1 => ⟨(h i).1 h1, hp i (.inl h1)⟩, fun h2 => ⟨(h i).2 h2, hp i (.inr h2)⟩⟩
  cases h1 : wiN (onS S c) p <;> cases h2 : wiN c p <;> simp_all
/-- a cube is an implicant exactly if it implies a prime -/
theorem implied (hc : okN c) : impN S V (onS S c) ↔ ∃ p, prmN S V p ∧ wiN c p = true := by
  constructor
  · intro h
    obtain ⟨p, h1, h2⟩ := imp_prime (onS_ok hc).1 (onS_ok hc).2 h
    exact ⟨p, h1, by rw [← wi_onS h1.2.1]; exact h2⟩
  · rintro ⟨p, h1, h2⟩
    refine impN_of_wi ?_ h1.2.2.1
    rw [wi_onS h1.2.1]; exact h2
end
/-! ### none of an irredundant cover can be left out -/
section
variable {l m : List Cn} {c : Cn}
theorem covB_mono (hc : okN c) (h : ∀ d, d ∈ l → d ∈ m) (hl : covB l c = true) : covB m c = true := by
  rw [covB_iff hc] at hl ⊢
  intro t ht hh
  obtain ⟨d, hd, h1⟩ := List.any_eq_true.1 (hl t ht hh)
  exact List.any_eq_true.2 ⟨d, h d hd, h1⟩
theorem irrN_mem : ∀ {i : Nat} {l : List Cn} {d : Cn}, d ∈ irrN i l → d ∈ l
  | 0, l, d, h => h
  | i + 1, l, d, h => by
    rw [irrN] at h
    have := irrN_mem h
    split at this
    · exact mem_erase this
    · exact this
theorem irrN_none : ∀ {i : Nat} {l : List Cn}, i ≤ l.length → (∀ d, d ∈ l → okN d) → (∀ j, i ≤ j → j < l.length → covB (l.eraseIdx j) (atN l j) = false) → ∀ j, j < (irrN i l).length → covB ((irrN i l).eraseIdx j) (atN (irrN i l) j) = false
  | 0, l, _, _, h, j, hj => h j (Nat.zero_le _) hj
  | i + 1, l, hi, ho, h, j, hj => by
    rw [irrN] at hj ⊢
    by_cases hcv : covB (l.eraseIdx i) (atN l i) = true
    · rw [if_pos hcv] at hj ⊢
      have hlen : (l.eraseIdx i).length = l.length - 1 := List.length_eraseIdx_of_lt (by omega)
      refine irrN_none (by omega) (fun d hd => ho d (mem_erase hd)) (fun k hk hkl => ?_) j hj
      have e : atN (l.eraseIdx i) k = atN l (k + 1) := by
        unfold atN
        rw [List.getD_eq_getElem?_getD, List.getD_eq_getElem?_getD, List.getElem?_eraseIdx_of_ge hk]
      rw [e]
      cases hb : covB ((l.eraseIdx i).eraseIdx k) (atN l (k + 1))
      · rfl
      · have h2 := h (k + 1) (by omega) (by omega)
        rw [covB_mono (ho _ (atN_mem (by omega))) (fun d hd => ?_) hb] at h2
        · cases h2
        · obtain ⟨a, ha, hne, rfl⟩ := List.mem_eraseIdx_iff_getElem.1 hd
          rw [List.length_eraseIdx_of_lt (by omega)] at ha
          refine List.mem_eraseIdx_iff_getElem.2 ?_
          by_cases hai : a < i
          · exact ⟨a, by omega, by omega, by rw [List.getElem_eraseIdx_of_lt (by omega) (by omega)]⟩
          · exact ⟨a + 1, by omega, by omega, by rw [List.getElem_eraseIdx_of_ge (by omega) (by omega)]⟩
    · rw [if_neg hcv] at hj ⊢
      refine irrN_none (by omega) ho (fun k hk hkl => ?_) j hj
      by_cases e : k = i
      · rw [e]; simpa using hcv
      · exact h k (by omega) hkl
end
end Go.Proofs.Ytedopalmfakeaaa
namespace Go.Proofs.Ytedopalmfakeaaa
set_option linter.unusedSimpArgs false
set_option linter.unusedVariables false
/-! ## every essential prime is in the irredundant cover (plain) -/
section
variable {l R : List Cn} {c : Cn}
theorem erase_ne {l : List Cn} (hn : l.Nodup) {i : Nat} (hi : i < l.length) {d : Cn} (h : d ∈ l.eraseIdx i) : d ∈ l ∧ d ≠ atN l i := by
  obtain ⟨a, ha, hne, rfl⟩ := List.mem_eraseIdx_iff_getElem.1 h
  refine ⟨List.getElem_mem ha, fun e => hne ?_⟩
  rw [atN_lt hi] at e
  exact (List.getElem_inj hn).1 e
theorem mem_erase_of {l : List Cn} {i : Nat} (hi : i < l.length) {d : Cn} (h : d ∈ l) (hne : d ≠ atN l i) : d ∈ l.eraseIdx i := by
  obtain ⟨a, ha, rfl⟩ := List.getElem_of_mem h
  refine List.mem_eraseIdx_iff_getElem.2 ⟨a, ha, fun e => hne ?_, rfl⟩
  subst e
  rw [atN_lt hi]
theorem irrN_keep (hc : okN c) (hR : covB R c = false) : ∀ {i : Nat} {m : List Cn}, i ≤ m.length → m.Nodup → (∀ d, d ∈ m → d ≠ c → d ∈ R) → c ∈ m → c ∈ irrN i m
  | 0, m, _, _, _, h => h
  | i + 1, m, hi, hn, hs, h => by
    rw [irrN]
    by_cases hcv : covB (m.eraseIdx i) (atN m i) = true
    · rw [if_pos hcv]
      have hne : c ≠ atN m i := fun e => by
        rw [← e] at hcv
        rw [covB_mono hc (fun d hd => hs d (erase_ne hn (by omega) hd).1 (by rw [e]; exact (erase_ne hn (by omega) hd).2)) hcv] at hR
        cases hR
      refine irrN_keep hc hR (by rw [List.length_eraseIdx_of_lt (by omega)]; omega) (hn.sublist (List.eraseIdx_sublist ..)) (fun d hd => hs d (mem_erase hd)) (mem_erase_of (by omega) h hne)
    · rw [if_neg hcv]
      exact irrN_keep hc hR (by omega) hn hs h
/-- P13.4 -/
theorem ess_irr (hl : ∀ d, d ∈ l → okN d) (hn : l.Nodup) (h : c ∈ essN l) : c ∈ irrN l.length l := by
  unfold essN at h
  simp only [List.mem_map, List.mem_filter, List.mem_range, Bool.not_eq_true'] at h
  obtain ⟨i, ⟨hi, hcv⟩, rfl⟩ := h
  exact irrN_keep (hl _ (atN_mem hi)) hcv (Nat.le_refl _) hn (fun d hd hne => mem_erase_of hi hd hne) (atN_mem hi)
theorem irr_none (hl : ∀ d, d ∈ l → okN d) : ∀ j, j < (irrN l.length l).length → covB ((irrN l.length l).eraseIdx j) (atN (irrN l.length l) j) = false := irrN_none (Nat.le_refl _) hl fun j h1 h2 => by omega
end
/-! ### P13.5: the primes tell the function -/
theorem prm_same {S S' : Nat} {V V' : Nat → Bool} (hS : S < 16777216) (hS' : S' < 16777216) (hV : ∀ t, V (t &&& S) = V t) (hV' : ∀ t, V' (t &&& S') = V' t) (h : ∀ p, prmN S V p ↔ prmN S' V' p) (t : Nat) : V t = V' t := by
  have h1 := prime_holds hS hV t
  have h2 := prime_holds hS' hV' t
  have key : V t = true ↔ V' t = true := by
    rw [← h1, ← h2]
    exact ⟨fun ⟨p, hp, hh⟩ => ⟨p, (h p).1 hp, hh⟩, fun ⟨p, hp, hh⟩ => ⟨p, (h p).2 hp, hh⟩⟩
  cases e1 : V t <;> cases e2 : V' t <;> simp_all
end Go.Proofs.Ytedopalmfakeaaa
namespace Go.Proofs.Ytedopalmfakeaaa
set_option linter.unusedSimpArgs false
set_option linter.unusedVariables false
/-! ## P13.5 (plain): equal functions have the same primes, whatever lies below Top -/
section
variable {S S' : Nat} {V V' : Nat → Bool} {p : Cn}
theorem impN_all (hp : inS S p) (hV : ∀ t, V (t &&& S) = V t) : impN S V p ↔ ∀ t, hoN p t = true → V t = true := by
  constructor
  · intro h t hh
    rw [← hV]
    exact h _ (fun i hi => by rw [Nat.testBit_and, Bool.and_eq_true] at hi; exact hi.2) (by rw [hoN_mask hp]; exact hh)
  · exact fun h t _ hh => h t hh
/-- a state with one event put as a cube wants it -/
theorem put_bit (p : Cn) (hp : okN p) (j t : Nat) (hh : hoN (cutN j p) t = true) : ∃ u, hoN p u = true ∧ ∀ i, i ≠ j → u.testBit i = t.testBit i := by
  have hb := (hoN_iff _ _).1 hh
  cases hj : p.1.testBit j
  · refine ⟨ndiff t (2 ^ j), (hoN_iff _ _).2 fun i => ?_, fun i hi => ?_⟩
    · have h1 := hb i
      rw [(cut_bit j p i).1, (cut_bit j p i).2] at h1
      rw [testBit_ndiff, Nat.testBit_two_pow]
      by_cases e : j = i
      · subst e
        exact ⟨fun h => absurd h (by rw [hj]; simp), fun _ => by simp⟩
      · exact ⟨fun h => by simp [h1.1 (by simp [h, e]), e], fun h => by simp [h1.2 (by simp [h, e])]⟩
    · rw [testBit_ndiff, Nat.testBit_two_pow, decide_eq_false (fun e : j = i => hi e.symm)]
      simp
  · have h2j : p.2.testBit j = false := by
      cases e : p.2.testBit j
      · rfl
      · exact absurd ⟨hj, e⟩ (ok_bit hp j)
    refine ⟨t ||| 2 ^ j, (hoN_iff _ _).2 fun i => ?_, fun i hi => ?_⟩
    · have h1 := hb i
      rw [(cut_bit j p i).1, (cut_bit j p i).2] at h1
      rw [Nat.testBit_or, Nat.testBit_two_pow]
      by_cases e : j = i
      · subst e
        exact ⟨fun _ => by simp, fun h => absurd h (by rw [h2j]; simp)⟩
      · exact ⟨fun h => by simp [h1.1 (by simp [h, e])], fun h => by simp [h1.2 (by simp [h, e]), e]⟩
    · rw [Nat.testBit_or, Nat.testBit_two_pow, decide_eq_false (fun e : j = i => hi e.symm)]
      simp
theorem prm_move (hV : ∀ t, V (t &&& S) = V t) (hV' : ∀ t, V' (t &&& S') = V' t) (e : ∀ t, V t = V' t) (h : prmN S V p) : prmN S' V' p := by
  obtain ⟨ho, hs, hi, hm⟩ := h
  have hg := (impN_all hs hV).1 hi
  have hs' : inS S' p := fun j hj => by
    have hj : (evN p).testBit j = true := by rw [evN_bit, Bool.or_eq_true]; exact hj
    cases hS' : S'.testBit j
    · refine absurd ((impN_all (fun i hi => ?_) hV).2 fun t hh => ?_) (hm j hj)
      · rw [(cut_bit j p i).1, (cut_bit j p i).2] at hi
        refine hs i ?_
        rcases hi with hi | hi
        · exact .inl (by simp at hi; exact hi.1)
        · exact .inr (by simp at hi; exact hi.1)
      · obtain ⟨u, h1, h2⟩ := put_bit p ho j t hh
        have e3 : u &&& S' = t &&& S' := by
          apply Nat.eq_of_testBit_eq
          intro i
          rw [Nat.testBit_and, Nat.testBit_and]
          by_cases ei : i = j
          · subst ei; rw [hS']; simp
          · rw [h2 i ei]
        rw [e, ← hV', ← e3, hV', ← e]
        exact hg u h1
    · rfl
  refine ⟨ho, hs', (impN_all hs' hV').2 fun t hh => by rw [← e]; exact hg t hh, fun j hj hc => hm j hj ?_⟩
  have c1 := (impN_all (inS_cut hs' j) hV').1 hc
  exact (impN_all (inS_cut hs j) hV).2 fun t hh => by rw [e]; exact c1 t hh
/-- equal functions, the same primes -/
theorem prm_equal (hS : S < 16777216) (hS' : S' < 16777216) (hV : ∀ t, V (t &&& S) = V t) (hV' : ∀ t, V' (t &&& S') = V' t) : (∀ p, prmN S V p ↔ prmN S' V' p) ↔ ∀ t, V t = V' t :=
  ⟨fun h t => prm_same hS hS' hV hV' h t, fun e p => ⟨prm_move hV hV' e, prm_move hV' hV fun t => (e t).symm⟩⟩
end
end Go.Proofs.Ytedopalmfakeaaa
