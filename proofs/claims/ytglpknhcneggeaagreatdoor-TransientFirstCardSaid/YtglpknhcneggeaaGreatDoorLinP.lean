/- Contracts of functions and lemmas, used by the proofs of the given statements. No condition beyond those that each lemma names. -/
import Derived.Test.YtglpknhcneggeaaGreatDoorJNumQ
namespace Go.Proofs.YtglpknhcneggeaaGreatDoor
set_option linter.unusedSimpArgs false
set_option linter.unusedVariables false
/-! ## the reduced form, on matrices as functions (plain) -/
abbrev Mf := Nat → Nat → Rat
def upd {α : Type} (f : Nat → α) (k : Nat) (x : α) : Nat → α := fun j => if j = k then x else f j
def dotS (x y : Nat → Rat) : Nat → Rat
  | 0 => 0
  | k + 1 => dotS x y k + x k * y k
def findF (M : Mf) (k : Nat) : Nat → Nat → Nat
  | 0, a => a
  | f + 1, a => if M a k = 0 then findF M k f (a + 1) else a
/-- the first row from a on, of n, that is not 0 at column k; n if there is none -/
def findR (n : Nat) (M : Mf) (k a : Nat) : Nat := findF M k (n - a) a
theorem findF_eq {M : Mf} {k : Nat} : ∀ {f a r : Nat}, a ≤ r → r ≤ a + f → (∀ i, a ≤ i → i < r → M i k = 0) → (r = a + f ∨ M r k ≠ 0) → findF M k f a = r := by
  intro f
  induction f with
  | zero => intro a r h1 h2 _ _; unfold findF; omega
  | succ f ih =>
    intro a r h1 h2 h3 h4
    unfold findF
    by_cases h : M a k = 0
    · rw [if_pos h]
      have hne : a ≠ r := by
        rintro rfl
        rcases h4 with h4 | h4
        · omega
        · exact h4 h
      exact ih (by omega) (by omega) (fun i hi hr => h3 i (by omega) hr) (h4.imp (fun e => by omega) id)
    · rw [if_neg h]
      rcases Nat.lt_or_ge a r with h5 | h5
      · exact absurd (h3 a (Nat.le_refl _) h5) h
      · omega
theorem findF_spec {M : Mf} {k : Nat} : ∀ {f a : Nat}, a ≤ findF M k f a ∧ findF M k f a ≤ a + f ∧ (∀ i, a ≤ i → i < findF M k f a → M i k = 0) ∧ (findF M k f a = a + f ∨ M (findF M k f a) k ≠ 0) := by
  intro f
  induction f with
  | zero => intro a; unfold findF; exact ⟨Nat.le_refl _, Nat.le_refl _, fun i h1 h2 => by omega, .inl rfl⟩
  | succ f ih =>
    intro a
    unfold findF
    by_cases h : M a k = 0
    · rw [if_pos h]
      obtain ⟨h1, h2, h3, h4⟩ := ih (a := a + 1)
      refine ⟨by omega, by omega, fun i hi hr => ?_, h4.imp (fun e => by omega) id⟩
      rcases Nat.lt_or_ge a i with h5 | h5
      · exact h3 i h5 hr
      · have : i = a := by omega
        rw [this]; exact h
    · rw [if_neg h]
      exact ⟨Nat.le_refl _, by omega, fun i h1 h2 => by omega, .inr h⟩
theorem findR_eq {n : Nat} {M : Mf} {k a r : Nat} (h1 : a ≤ r) (h2 : r ≤ n) (h3 : ∀ i, a ≤ i → i < r → M i k = 0) (h4 : r = n ∨ M r k ≠ 0) : findR n M k a = r :=
  findF_eq h1 (by omega) h3 (h4.imp (fun e => by omega) id)
theorem findR_spec {n : Nat} {M : Mf} {k a : Nat} (ha : a ≤ n) : a ≤ findR n M k a ∧ findR n M k a ≤ n ∧ (∀ i, a ≤ i → i < findR n M k a → M i k = 0) ∧ (findR n M k a < n → M (findR n M k a) k ≠ 0) := by
  obtain ⟨h1, h2, h3, h4⟩ := findF_spec (M := M) (k := k) (f := n - a) (a := a)
  refine ⟨h1, by unfold findR; omega, h3, fun h => ?_⟩
  rcases h4 with h4 | h4
  · unfold findR at h; omega
  · exact h4
def swp (M : Mf) (i j : Nat) : Mf := fun a => if a = i then M j else if a = j then M i else M a
theorem swp_self (M : Mf) (i : Nat) : swp M i i = M := by
  funext a; unfold swp; split
  · rename_i h; rw [h]
  · rfl
/-- the pivot's row is divided, and subtracted from the others -/
def elim (S : Mf) (a k : Nat) : Mf := fun i j => if i = a then S a j / S a k else S i j - S i k * (S a j / S a k)
/-- one column -/
def gjS (n k : Nat) (s : Mf × List Nat) : Mf × List Nat :=
  if findR n s.1 k s.2.length < n then (elim (swp s.1 s.2.length (findR n s.1 k s.2.length)) s.2.length k, s.2 ++ [k]) else s
/-- behind the columns ahead of k -/
def gj (n : Nat) (M : Mf) : Nat → Mf × List Nat
  | 0 => (M, [])
  | k + 1 => gjS n k (gj n M k)
theorem gj_succ (n : Nat) (M : Mf) (k : Nat) : gj n M (k + 1) = gjS n k (gj n M k) := rfl
theorem gjS_no {n k : Nat} {s : Mf × List Nat} (h : findR n s.1 k s.2.length = n) : gjS n k s = s := by
  unfold gjS; rw [if_neg (by omega)]
theorem gjS_yes {n k r : Nat} {s : Mf × List Nat} (h : findR n s.1 k s.2.length = r) (hr : r < n) : gjS n k s = (elim (swp s.1 s.2.length r) s.2.length k, s.2 ++ [k]) := by
  unfold gjS; rw [if_pos (by omega), h]
theorem gj_len_le {n : Nat} {M : Mf} (k : Nat) : (gj n M k).2.length ≤ k ∧ (gj n M k).2.length ≤ n := by
  induction k with
  | zero => exact ⟨Nat.le_refl _, Nat.zero_le _⟩
  | succ k ih =>
    rw [gj_succ]
    unfold gjS
    split
    · rename_i h
      have := (findR_spec (n := n) (M := (gj n M k).1) (k := k) ih.2).1
      simp only [List.length_append, List.length_singleton]
      omega
    · omega
theorem gj_full {n : Nat} {M : Mf} {k : Nat} (h : (gj n M k).2.length = n) : ∀ {c : Nat}, k ≤ c → gj n M c = gj n M k := by
  intro c hc
  induction c with
  | zero => have : k = 0 := by omega
            rw [this]
  | succ c ih =>
    rcases Nat.lt_or_ge c k with h1 | h1
    · have : k = c + 1 := by omega
      rw [this]
    · have e := ih h1
      rw [gj_succ, gjS_no, e]
      rw [e, h]
      have := findR_spec (n := n) (M := (gj n M k).1) (k := c) (a := n) (Nat.le_refl _)
      omega
theorem gj_lt {n : Nat} {M : Mf} (k : Nat) : ∀ x ∈ (gj n M k).2, x < k := by
  induction k with
  | zero => intro x hx; cases hx
  | succ k ih =>
    rw [gj_succ]
    intro x hx
    unfold gjS at hx
    split at hx
    · rw [List.mem_append] at hx
      rcases hx with hx | hx
      · have := ih x hx; omega
      · simp at hx; omega
    · have := ih x hx; omega
/-! ## how great the words become -/
def gl (L : Nat) : Nat → Nat
  | 0 => L
  | k + 1 => 4 * gl L k + 1
theorem gl_pos {L : Nat} (hL : 1 ≤ L) (k : Nat) : 1 ≤ gl L k := by
  cases k with
  | zero => exact hL
  | succ k => unfold gl; omega
theorem gl_mono {L : Nat} {j k : Nat} (h : j ≤ k) : gl L j ≤ gl L k := by
  induction k with
  | zero => have : j = 0 := by omega
            rw [this]; exact Nat.le_refl _
  | succ k ih =>
    rcases Nat.lt_or_ge j (k + 1) with h1 | h1
    · have := ih (by omega); show _ ≤ 4 * gl L k + 1; omega
    · have : j = k + 1 := by omega
      rw [this]; exact Nat.le_refl _
theorem swp_sz {n c L i j : Nat} {M : Mf} (h : ∀ a b, a < n → b < c → Sz L (M a b)) (hi : i < n) (hj : j < n) : ∀ a b, a < n → b < c → Sz L (swp M i j a b) := by
  intro a b ha hb
  unfold swp
  split
  · exact h j b hj hb
  · split
    · exact h i b hi hb
    · exact h a b ha hb
theorem elim_sz {n c L a k : Nat} {M : Mf} (hL : 1 ≤ L) (h : ∀ a b, a < n → b < c → Sz L (M a b)) (ha : a < n) (hk : k < c) : ∀ i j, i < n → j < c → Sz (4 * L + 1) (elim M a k i j) := by
  intro i j hi hj
  have hd := (h a j ha hj).div (h a k ha hk) hL
  unfold elim
  split
  · exact hd.more (by omega)
  · exact ((h i j hi hj).sub ((h i k hi hk).mul hd hL)).more (by omega)
theorem gj_sz {n c L : Nat} {M : Mf} (hL : 1 ≤ L) (h : ∀ a b, a < n → b < c → Sz L (M a b)) : ∀ k, k ≤ c → ∀ a b, a < n → b < c → Sz (gl L k) ((gj n M k).1 a b) := by
  intro k
  induction k with
  | zero => intro _; exact h
  | succ k ih =>
    intro hk
    have ih := ih (by omega)
    rw [gj_succ]
    unfold gjS
    split
    · rename_i hr
      have hl := (gj_len_le (n := n) (M := M) k).2
      have ha : (gj n M k).2.length < n := by
        have := (findR_spec (n := n) (M := (gj n M k).1) (k := k) hl).1
        omega
      exact elim_sz (gl_pos hL k) (swp_sz ih ha hr) ha (by omega)
    · intro a b ha hb
      exact (ih a b ha hb).more (gl_mono (by omega))
end Go.Proofs.YtglpknhcneggeaaGreatDoor
