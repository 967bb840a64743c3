/- Contracts of functions and lemmas, used by the proofs of the given statements. No condition beyond those that each lemma names. -/
import Derived.Test.YtedopalmfakeaaaCubePl
import Derived.Test.YtedopalmfakeaaaAbsP
namespace Go.Proofs.Ytedopalmfakeaaa
set_option linter.unusedSimpArgs false
set_option linter.unusedVariables false
/-! ## the order of the lists of cubes (plain) -/
def szN (c : Cn) : Nat := popc c.1 + popc c.2
def ltN (a b : Cn) : Bool := decide (szN a < szN b ∨ szN a = szN b ∧ (a.1 < b.1 ∨ a.1 = b.1 ∧ a.2 < b.2))
theorem ltN_iff (a b : Cn) : ltN a b = true ↔ szN a < szN b ∨ szN a = szN b ∧ (a.1 < b.1 ∨ a.1 = b.1 ∧ a.2 < b.2) := by simp [ltN]
theorem ltN_o : LtO ltN where
  irr a := by
    cases h : ltN a a
    · rfl
    · rw [ltN_iff] at h; omega
  tr a b c h1 h2 := by rw [ltN_iff] at *; omega
  tot a b h := by
    rw [ltN_iff, ltN_iff]
    have : ¬ (a.1 = b.1 ∧ a.2 = b.2) := fun e => h (Prod.ext e.1 e.2)
    omega
theorem sub_le {x c : Nat} (h : ∀ i, x.testBit i = true → c.testBit i = true) : x ≤ c := by
  have e : x &&& c = x := by
    apply Nat.eq_of_testBit_eq
    intro i
    rw [Nat.testBit_and]
    cases hx : x.testBit i
    · rfl
    · rw [h i hx]; rfl
  rw [← e]; exact Nat.and_le_right
theorem pop_sub (f : Nat) : ∀ {x c : Nat}, (∀ i, x.testBit i = true → c.testBit i = true) → pop f x ≤ pop f c := by
  induction f with
  | zero => intro x c h; exact Nat.le_refl _
  | succ f ih =>
    intro x c h
    have h0 : x % 2 ≤ c % 2 := by
      have := h 0
      rw [Nat.testBit_zero, Nat.testBit_zero] at this
      simp at this
      omega
    have h1 : pop f (x / 2) ≤ pop f (c / 2) := ih fun i hi => by
      have := h (i + 1)
      rw [Nat.testBit_succ, Nat.testBit_succ] at this
      exact this hi
    show x % 2 + pop f (x / 2) ≤ c % 2 + pop f (c / 2)
    omega
theorem wiN_o : WiO ltN wiN where
  refl a := (wiN_iff a a).2 fun i => ⟨id, id⟩
  tr a b c h1 h2 := by
    rw [wiN_iff] at *
    exact fun i => ⟨fun h => (h1 i).1 ((h2 i).1 h), fun h => (h1 i).2 ((h2 i).2 h)⟩
  lt c x h hne := by
    rw [wiN_iff] at h
    have a1 := sub_le fun i => (h i).1
    have a2 := sub_le fun i => (h i).2
    have p1 : popc x.1 ≤ popc c.1 := pop_sub 24 fun i => (h i).1
    have p2 : popc x.2 ≤ popc c.2 := pop_sub 24 fun i => (h i).2
    have : ¬ (x.1 = c.1 ∧ x.2 = c.2) := fun e => hne (Prod.ext e.1 e.2).symm
    rw [ltN_iff]
    unfold szN
    omega
/-- three-way comparison, as package cmp does it -/
def c3 (x y : Nat) : Int := if x < y then -1 else if y < x then 1 else 0
def cfN (a b : Cn) : Int := if c3 (szN a) (szN b) ≠ 0 then c3 (szN a) (szN b) else if c3 a.1 b.1 ≠ 0 then c3 a.1 b.1 else c3 a.2 b.2
theorem cfN_lt (a b : Cn) : decide (cfN a b < 0) = ltN a b := by
  unfold ltN
  rw [decide_eq_decide]
  unfold cfN c3
  split <;> split <;> (try split) <;> (try split) <;> (try split) <;> (try split) <;> omega
end Go.Proofs.Ytedopalmfakeaaa
