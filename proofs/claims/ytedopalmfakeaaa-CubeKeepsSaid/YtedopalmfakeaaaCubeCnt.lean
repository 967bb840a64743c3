/- Contracts of functions and lemmas, used by the proofs of the given statements. No condition beyond those that each lemma names. -/
import Derived.Test.YtedopalmfakeaaaCubeDef
namespace Go.Proofs.Ytedopalmfakeaaa

/-! ## plain laws: counting states -/
theorem ndiff_testBit (a b i : Nat) : (ndiff a b).testBit i = (a.testBit i && !b.testBit i) := testBit_ndiff a b i
/-- how many of the states that have only events of S below k meet p -/
def cnt : Nat → Nat → (Nat → Bool) → Nat
  | 0, _, p => if p 0 then 1 else 0
  | k + 1, S, p => if S.testBit k then cnt k S p + cnt k S (fun s => p (s ||| 2 ^ k)) else cnt k S p
theorem cnt_congr_S {k S S' : Nat} (h : ∀ i, i < k → S.testBit i = S'.testBit i) : ∀ p, cnt k S p = cnt k S' p := by
  induction k with
  | zero => intro p; rfl
  | succ k ih =>
    intro p
    have ih' := ih fun i hi => h i (by omega)
    simp only [cnt]
    rw [h k (by omega), ih', ih']
theorem cnt_split {k S j : Nat} (hj : j < k) (hS : S.testBit j = true) : ∀ p, cnt k S p = cnt k (ndiff S (2 ^ j)) p + cnt k (ndiff S (2 ^ j)) (fun s => p (s ||| 2 ^ j)) := by
  induction k with
  | zero => omega
  | succ k ih =>
    intro p
    by_cases hjk : j = k
    · subst hjk
      have e : (ndiff S (2 ^ j)).testBit j = false := by rw [testBit_ndiff]; simp
      have hc : ∀ i, i < j → S.testBit i = (ndiff S (2 ^ j)).testBit i := by
        intro i hi
        rw [testBit_ndiff, Nat.testBit_two_pow]
        have : j ≠ i := by omega
        simp [this]
      simp only [cnt, hS, e, if_true]
      rw [cnt_congr_S hc, cnt_congr_S hc]
      simp
    · have hlt : j < k := by omega
      have e : (ndiff S (2 ^ j)).testBit k = S.testBit k := by
        rw [testBit_ndiff, Nat.testBit_two_pow]
        simp [hjk]
      simp only [cnt, e]
      split
      · rw [ih hlt, ih hlt]
        have : (fun s => p (s ||| 2 ^ j ||| 2 ^ k)) = (fun s => p (s ||| 2 ^ k ||| 2 ^ j)) := by
          funext s
          rw [Nat.or_assoc, Nat.or_comm (2 ^ j), ← Nat.or_assoc]
        rw [this]
        omega
      · exact ih hlt p
/-- the states at hand: only events of S, below k -/
def isSt (k S s : Nat) : Prop := ∀ i, s.testBit i = true → i < k ∧ S.testBit i = true
theorem isSt_zero (k S : Nat) : isSt k S 0 := by intro i h; simp at h
theorem isSt_or {k S s : Nat} (h : isSt k S s) (hS : S.testBit k = true) : isSt (k + 1) S (s ||| 2 ^ k) := by
  intro i hi
  rw [Nat.testBit_or, Nat.testBit_two_pow] at hi
  by_cases hk : k = i
  · subst hk; exact ⟨by omega, hS⟩
  · simp [hk] at hi
    exact ⟨by have := (h i hi).1; omega, (h i hi).2⟩
theorem isSt_succ {k S s : Nat} (h : isSt k S s) : isSt (k + 1) S s := fun i hi => ⟨by have := (h i hi).1; omega, (h i hi).2⟩
theorem cnt_congr {k S : Nat} {p q : Nat → Bool} (h : ∀ s, isSt k S s → p s = q s) : cnt k S p = cnt k S q := by
  induction k generalizing p q with
  | zero => simp only [cnt]; rw [h 0 (isSt_zero _ _)]
  | succ k ih =>
    simp only [cnt]
    split
    · rename_i hS
      rw [ih fun s hs => h s (isSt_succ hs), ih fun s hs => h _ (isSt_or hs hS)]
    · exact ih fun s hs => h s (isSt_succ hs)
theorem cnt_false {k S : Nat} : cnt k S (fun _ => false) = 0 := by
  induction k with
  | zero => rfl
  | succ k ih => simp only [cnt, ih]; split <;> rfl
theorem cnt_true {k S : Nat} : cnt k S (fun _ => true) = 2 ^ pop k S := by
  induction k with
  | zero => rfl
  | succ k ih =>
    simp only [cnt, ih]
    have e : pop (k + 1) S = pop k S + (if S.testBit k then 1 else 0) := by
      rw [pop_add k 1 S]
      congr 1
      simp only [pop]
      rw [Nat.testBit_eq_decide_div_mod_eq]
      by_cases h : S / 2 ^ k % 2 = 1
      · simp [h]
      · have : S / 2 ^ k % 2 = 0 := by omega
        simp [this]
    rw [e]
    split
    · rw [Nat.pow_succ]; omega
    · rfl
theorem cnt_le {k S : Nat} (p : Nat → Bool) : cnt k S p ≤ 2 ^ pop k S := by
  rw [← cnt_true]
  induction k generalizing p with
  | zero => simp only [cnt]; split <;> simp
  | succ k ih =>
    simp only [cnt]
    split
    · exact Nat.add_le_add (ih _) (ih _)
    · exact ih _
theorem cnt_full {k S : Nat} {p : Nat → Bool} : cnt k S p = 2 ^ pop k S ↔ ∀ s, isSt k S s → p s = true := by
  constructor
  · rw [← cnt_true]
    induction k generalizing p with
    | zero =>
      intro h s hs
      have h0 : s = 0 := by
        apply Nat.eq_of_testBit_eq
        intro i
        rw [Nat.zero_testBit]
        cases hi : s.testBit i
        · rfl
        · have := (hs i hi).1; omega
      subst h0
      simp only [cnt] at h
      split at h
      · assumption
      · simp at h
    | succ k ih =>
      intro h s hs
      simp only [cnt] at h
      split at h
      · rename_i hS
        have l1 := @cnt_le k S p
        have l2 := @cnt_le k S (fun s => p (s ||| 2 ^ k))
        rw [← cnt_true] at l1 l2
        have e1 : cnt k S p = cnt k S (fun _ => true) := by omega
        have e2 : cnt k S (fun s => p (s ||| 2 ^ k)) = cnt k S (fun _ => true) := by omega
        by_cases hk : s.testBit k = true
        · have hs' : isSt k S (ndiff s (2 ^ k)) := by
            intro i hi
            rw [testBit_ndiff, Nat.testBit_two_pow] at hi
            simp at hi
            have := hs i hi.1
            exact ⟨by omega, this.2⟩
          have := ih e2 _ hs'
          have e : ndiff s (2 ^ k) ||| 2 ^ k = s := by
            apply Nat.eq_of_testBit_eq
            intro i
            rw [Nat.testBit_or, testBit_ndiff, Nat.testBit_two_pow]
            by_cases hki : k = i
            · subst hki; simp [hk]
            · simp [hki]
          rwa [e] at this
        · refine ih e1 s fun i hi => ?_
          have := hs i hi
          refine ⟨?_, this.2⟩
          rcases Nat.lt_or_ge i k with h1 | h1
          · exact h1
          · have : i = k := by omega
            subst this
            exact absurd hi hk
      · rename_i hS
        refine ih h s fun i hi => ?_
        have := hs i hi
        refine ⟨?_, this.2⟩
        rcases Nat.lt_or_ge i k with h1 | h1
        · exact h1
        · have : i = k := by omega
          subst this
          exact absurd this.2 hS
  · intro h
    rw [← cnt_true]
    exact cnt_congr h
/-- adding up -/
theorem cnt_add {k S : Nat} {p q r : Nat → Bool} (h : ∀ s, isSt k S s → (if r s then 1 else 0) = (if p s then 1 else 0) + (if q s then (1 : Nat) else 0)) : cnt k S r = cnt k S p + cnt k S q := by
  induction k generalizing p q r with
  | zero => exact h 0 (isSt_zero _ _)
  | succ k ih =>
    simp only [cnt]
    split
    · rename_i hS
      have h1 := ih (p := p) (q := q) (r := r) fun s hs => h s (isSt_succ hs)
      have h2 := ih (p := fun s => p (s ||| 2 ^ k)) (q := fun s => q (s ||| 2 ^ k)) (r := fun s => r (s ||| 2 ^ k)) fun s hs => h _ (isSt_or hs hS)
      omega
    · exact ih fun s hs => h s (isSt_succ hs)
/-- the lowest bit of a number above 0 -/
theorem low_bit (x : Nat) (h0 : 0 < x) (hx : x < 18446744073709551616) : ∃ j, x.testBit j = true ∧ x &&& (18446744073709551616 - x) = 2 ^ j := by
  have key : ∀ n x, x < n → 0 < x → ∃ j m, x = 2 ^ j * (2 * m + 1) := by
    intro n
    induction n with
    | zero => intro x h; omega
    | succ n ih =>
      intro x h h0
      rcases Nat.mod_two_eq_zero_or_one x with he | ho
      · obtain ⟨j, m, e⟩ := ih (x / 2) (by omega) (by omega)
        refine ⟨j + 1, m, ?_⟩
        rw [Nat.pow_succ, Nat.mul_comm (2 ^ j) 2, Nat.mul_assoc, ← e]
        omega
      · exact ⟨0, x / 2, by simp; omega⟩
  obtain ⟨j, m, e⟩ := key (x + 1) x (by omega) h0
  have hy : x - 1 = 2 ^ j * (2 * m) + (2 ^ j - 1) := by
    have := Nat.two_pow_pos j
    rw [e, Nat.mul_add, Nat.mul_one]
    omega
  have hlt : 2 ^ j - 1 < 2 ^ j := by have := Nat.two_pow_pos j; omega
  have tx : ∀ i, x.testBit i = if i < j then false else (2 * m + 1).testBit (i - j) := by
    intro i
    rw [e]
    have := Nat.testBit_two_pow_mul_add (i := j) (b := 0) (2 * m + 1) (Nat.two_pow_pos j) i
    simpa using this
  have ty : ∀ i, (x - 1).testBit i = if i < j then true else (2 * m).testBit (i - j) := by
    intro i
    rw [hy, Nat.testBit_two_pow_mul_add _ hlt]
    split
    · rw [Nat.testBit_two_pow_sub_one]; simpa using ‹i < j›
    · rfl
  have hj64 : j < 64 := by
    rcases Nat.lt_or_ge j 64 with h1 | h1
    · exact h1
    · have h2 : 2 ^ 64 ≤ 2 ^ j := Nat.pow_le_pow_right (by omega) h1
      have h3 : 2 ^ j ≤ x := by rw [e]; exact Nat.le_mul_of_pos_right _ (by omega)
      omega
  refine ⟨j, by rw [tx]; simp, ?_⟩
  apply Nat.eq_of_testBit_eq
  intro i
  have hs : 18446744073709551616 - x = 2 ^ 64 - (x - 1 + 1) := by omega
  rw [Nat.testBit_and, hs, Nat.testBit_two_pow_sub_succ (by omega), Nat.testBit_two_pow, ty, tx]
  by_cases h1 : i < j
  · have : j ≠ i := by omega
    simp [h1, this]
  · by_cases h2 : j = i
    · subst h2
      simp [hj64]
    · have h3 : ∃ t, i - j = t + 1 := ⟨i - j - 1, by omega⟩
      obtain ⟨t, ht⟩ := h3
      have h4 : (2 * m + 1).testBit (t + 1) = (2 * m).testBit (t + 1) := by
        rw [Nat.testBit_succ, Nat.testBit_succ]; congr 1; omega
      rw [if_neg h1, if_neg h1, ht, h4]
      simp [h2]
      exact fun h _ => h
theorem i64_lowbit (x : Nat) (h0 : 0 < x) (hx : x < 16777216) : ∃ j, j < 24 ∧ x.testBit j = true ∧ bits .and .i64 (x : Int) (-(x : Int)) = ((2 ^ j : Nat) : Int) := by
  obtain ⟨j, h1, h2⟩ := low_bit x h0 (by omega)
  have hj : j < 24 := by
    rcases Nat.lt_or_ge j 24 with h | h
    · exact h
    · have := Nat.testBit_lt_two_pow (x := x) (i := j) (Nat.lt_of_lt_of_le hx (Nat.pow_le_pow_right (n := 2) (by omega) h))
      rw [this] at h1; cases h1
  refine ⟨j, hj, h1, ?_⟩
  show IntKind.i64.wrap ((BitVec.ofInt 64 (x : Int) &&& BitVec.ofInt 64 (-(x : Int))).toNat : Int) = _
  have e : (BitVec.ofInt 64 (-(x : Int))).toNat = 18446744073709551616 - x := by
    rw [BitVec.toNat_ofInt]
    omega
  rw [BitVec.toNat_and, ofInt_i64 x (by omega), e, h2, IntKind.wrap_i64]
  have := pow_lt24 hj
  omega
attribute [irreducible] cnt
end Go.Proofs.Ytedopalmfakeaaa
