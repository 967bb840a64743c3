/- Contracts of functions and lemmas, used by the proofs of the given statements. No condition beyond those that each lemma names. -/
import Derived.Test.YtnljncncnohncaaDoorJNumQ
namespace Go.Proofs.YtnljncncnohncaaDoor
set_option linter.unusedSimpArgs false
set_option linter.unusedVariables false
/-! ## the reduced form, on matrices as functions (plain) -/
abbrev Mf := Nat → Nat → Rat
def upd {α : Type} (f : Nat → α) (k : Nat) (x : α) : Nat → α := fun j => if j = k then x else f j
def dotS (x y : Nat → Rat) : Nat → Rat
  | 0 => 0
  | k + 1 => dotS x y k + x k * y k
def findF (M : Mf) (k : Nat) : Nat → Nat → Nat
  | 0, a => a
  | f + 1, a => if M a k = 0 then findF M k f (a + 1) else a
/-- the first row from a on, of n, that is not 0 at column k; n if there is none -/
def findR (n : Nat) (M : Mf) (k a : Nat) : Nat := findF M k (n - a) a
theorem findF_eq {M : Mf} {k : Nat} : ∀ {f a r : Nat}, a ≤ r → r ≤ a + f → (∀ i, a ≤ i → i < r → M i k = 0) → (r = a + f ∨ M r k ≠ 0) → findF M k f a = r := by
  intro f
  induction f with
  | zero => intro a r h1 h2 _ _; unfold findF; omega
  | succ f ih =>
    intro a r h1 h2 h3 h4
    unfold findF
    by_cases h : M a k = 0
    · rw [if_pos h]
      have hne : a ≠ r := by
        rintro rfl
        rcases h4 with h4 | h4
        · omega
        · exact h4 h
      exact ih (by omega) (by omega) (fun i hi hr => h3 i (by omega) hr) (h4.imp (fun e => by omega) id)
    · rw [if_neg h]
      rcases Nat.lt_or_ge a r with h5 | h5
      · exact absurd (h3 a (Nat.le_refl _) h5) h
      · omega
theorem findF_spec {M : Mf} {k : Nat} : ∀ {f a : Nat}, a ≤ findF M k f a ∧ findF M k f a ≤ a + f ∧ (∀ i, a ≤ i → i < findF M k f a → M i k = 0) ∧ (findF M k f a = a + f ∨ M (findF M k f a) k ≠ 0) := by
  intro f
  induction f with
  | zero => intro a; unfold findF; exact ⟨Nat.le_refl _, Nat.le_refl _, fun i h1 h2 => by omega, .inl rfl⟩
  | succ f ih =>
    intro a
    unfold findF
    by_cases h : M a k = 0
    · rw [if_pos h]
      obtain ⟨h1, h2, h3, h4⟩ := ih (a := a + 1)
      refine ⟨by omega, by omega, fun i hi hr => ?_, h4.imp (fun e => by omega) id⟩
      rcases Nat.lt_or_ge a i with h5 | h5
      · exact h3 i h5 hr
      · have : i = a := by omega
        rw [this]; exact h
    · rw [if_neg h]
      exact ⟨Nat.le_refl _, by omega, fun i h1 h2 => by omega, .inr h⟩
theorem findR_eq {n : Nat} {M : Mf} {k a r : Nat} (h1 : a ≤ r) (h2 : r ≤ n) (h3 : ∀ i, a ≤ i → i < r → M i k = 0) (h4 : r = n ∨ M r k ≠ 0) : findR n M k a = r :=
  findF_eq h1 (by omega) h3 (h4.imp (fun e => by omega) id)
theorem findR_spec {n : Nat} {M : Mf} {k a : Nat} (ha : a ≤ n) : a ≤ findR n M k a ∧ findR n M k a ≤ n ∧ (∀ i, a ≤ i → i < findR n M k a → M i k = 0) ∧ (findR n M k a < n → M (findR n M k a) k ≠ 0) := by
  obtain ⟨h1, h2, h3, h4⟩ := findF_spec (M := M) (k := k) (f := n - a) (a := a)
  refine ⟨h1, by unfold findR; omega, h3, fun h => ?_⟩
  rcases h4 with h4 | h4
  · unfold findR at h; omega
  · exact h4
def swp (M : Mf) (i j : Nat) : Mf := fun a => if a = i then M j else if a = j then M i else M a
theorem swp_self (M : Mf) (i : Nat) : swp M i i = M := by
  funext a; unfold swp; split
  · rename_i h; rw [h]
  · rfl
/-- the pivot's row is divided, and subtracted from the others -/
def elim (S : Mf) (a k : Nat) : Mf := fun i j => if i = a then S a j / S a k else S i j - S i k * (S a j / S a k)
/-- one column -/
def gjS (n k : Nat) (s : Mf × List Nat) : Mf × List Nat :=
  if findR n s.1 k s.2.length < n then (elim (swp s.1 s.2.length (findR n s.1 k s.2.length)) s.2.length k, s.2 ++ [k]) else s
/-- behind the columns ahead of k -/
def gj (n : Nat) (M : Mf) : Nat → Mf × List Nat
  | 0 => (M, [])
  | k + 1 => gjS n k (gj n M k)
theorem gj_succ (n : Nat) (M : Mf) (k : Nat) : gj n M (k + 1) = gjS n k (gj n M k) := rfl
theorem gjS_no {n k : Nat} {s : Mf × List Nat} (h : findR n s.1 k s.2.length = n) : gjS n k s = s := by
  unfold gjS; rw [if_neg (by omega)]
theorem gjS_yes {n k r : Nat} {s : Mf × List Nat} (h : findR n s.1 k s.2.length = r) (hr : r < n) : gjS n k s = (elim (swp s.1 s.2.length r) s.2.length k, s.2 ++ [k]) := by
  unfold gjS; rw [if_pos (by omega), h]
theorem gj_len_le {n : Nat} {M : Mf} (k : Nat) : (gj n M k).2.length ≤ k ∧ (gj n M k).2.length ≤ n := by
  induction k with
  | zero => exact ⟨Nat.le_refl _, Nat.zero_le _⟩
  | succ k ih =>
    rw [gj_succ]
    unfold gjS
    split
    · rename_i h
      have := (findR_spec (n := n) (M := (gj n M k).1) (k := k) ih.2).1
      simp only [List.length_append, List.length_singleton]
      omega
    · omega
theorem gj_full {n : Nat} {M : Mf} {k : Nat} (h : (gj n M k).2.length = n) : ∀ {c : Nat}, k ≤ c → gj n M c = gj n M k := by
  intro c hc
  induction c with
  | zero => have : k = 0 := by omega
            rw [this]
  | succ c ih =>
    rcases Nat.lt_or_ge c k with h1 | h1
    · have : k = c + 1 := by omega
      rw [this]
    · have e := ih h1
      rw [gj_succ, gjS_no, e]
      rw [e, h]
      have := findR_spec (n := n) (M := (gj n M k).1) (k := c) (a := n) (Nat.le_refl _)
      omega
theorem gj_lt {n : Nat} {M : Mf} (k : Nat) : ∀ x ∈ (gj n M k).2, x < k := by
  induction k with
  | zero => intro x hx; cases hx
  | succ k ih =>
    rw [gj_succ]
    intro x hx
    unfold gjS at hx
    split at hx
    · rw [List.mem_append] at hx
      rcases hx with hx | hx
      · have := ih x hx; omega
      · simp at hx; omega
    · have := ih x hx; omega
/-! ## how great the words become -/
def gl (L : Nat) : Nat → Nat
  | 0 => L
  | k + 1 => 4 * gl L k + 1
theorem gl_pos {L : Nat} (hL : 1 ≤ L) (k : Nat) : 1 ≤ gl L k := by
  cases k with
  | zero => exact hL
  | succ k => unfold gl; omega
theorem gl_mono {L : Nat} {j k : Nat} (h : j ≤ k) : gl L j ≤ gl L k := by
  induction k with
  | zero => have : j = 0 := by omega
            rw [this]; exact Nat.le_refl _
  | succ k ih =>
    rcases Nat.lt_or_ge j (k + 1) with h1 | h1
    · have := ih (by omega); show _ ≤ 4 * gl L k + 1; omega
    · have : j = k + 1 := by omega
      rw [this]; exact Nat.le_refl _
theorem swp_sz {n c L i j : Nat} {M : Mf} (h : ∀ a b, a < n → b < c → Sz L (M a b)) (hi : i < n) (hj : j < n) : ∀ a b, a < n → b < c → Sz L (swp M i j a b) := by
  intro a b ha hb
  unfold swp
  split
  · exact h j b hj hb
  · split
    · exact h i b hi hb
    · exact h a b ha hb
theorem elim_sz {n c L a k : Nat} {M : Mf} (hL : 1 ≤ L) (h : ∀ a b, a < n → b < c → Sz L (M a b)) (ha : a < n) (hk : k < c) : ∀ i j, i < n → j < c → Sz (4 * L + 1) (elim M a k i j) := by
  intro i j hi hj
  have hd := (h a j ha hj).div (h a k ha hk) hL
  unfold elim
  split
  · exact hd.more (by omega)
  · exact ((h i j hi hj).sub ((h i k hi hk).mul hd hL)).more (by omega)
theorem gj_sz {n c L : Nat} {M : Mf} (hL : 1 ≤ L) (h : ∀ a b, a < n → b < c → Sz L (M a b)) : ∀ k, k ≤ c → ∀ a b, a < n → b < c → Sz (gl L k) ((gj n M k).1 a b) := by
  intro k
  induction k with
  | zero => intro _; exact h
  | succ k ih =>
    intro hk
    have ih := ih (by omega)
    rw [gj_succ]
    unfold gjS
    split
    · rename_i hr
      have hl := (gj_len_le (n := n) (M := M) k).2
      have ha : (gj n M k).2.length < n := by
        have := (findR_spec (n := n) (M := (gj n M k).1) (k := k) hl).1
        omega
      exact elim_sz (gl_pos hL k) (swp_sz ih ha hr) ha (by omega)
    · intro a b ha hb
      exact (ih a b ha hb).more (gl_mono (by omega))
end Go.Proofs.YtnljncncnohncaaDoor
namespace Go.Proofs.YtnljncncnohncaaDoor
set_option linter.unusedSimpArgs false
set_option linter.unusedVariables false
/-! ## the determinant (plain) -/
/-- the pivot's row is subtracted from those below -/
def low (S : Mf) (k : Nat) : Mf := fun i j => if k < i then S i j - (S i k / S k k) * S k j else S i j
def dts (n : Nat) (M : Mf) : Nat → Option (Mf × Rat)
  | 0 => some (M, 1)
  | k + 1 => match dts n M k with
    | none => none
    | some (S, d) => if findR n S k k < n then some (low (swp S k (findR n S k k)) k, (if findR n S k k = k then d else -d) * swp S k (findR n S k k) k k) else none
def detF (n : Nat) (M : Mf) : Rat := match dts n M n with
  | none => 0
  | some (_, d) => d
theorem dts_none {n : Nat} {M : Mf} {k c : Nat} (h : dts n M k = none) (hc : k ≤ c) : dts n M c = none := by
  induction c with
  | zero => have : k = 0 := by omega
            rw [← this]; exact h
  | succ c ih =>
    rcases Nat.lt_or_ge c k with h1 | h1
    · have : k = c + 1 := by omega
      rw [← this]; exact h
    · show (match dts n M c with | none => none | some (S, d) => _) = none
      rw [ih h1]
theorem dts_no {n : Nat} {M S : Mf} {d : Rat} {k : Nat} (h : dts n M k = some (S, d)) (hk : k < n) (hr : findR n S k k = n) : detF n M = 0 := by
  have : dts n M (k + 1) = none := by
    show (match dts n M k with | none => none | some (S, d) => _) = none
    rw [h]
    show (if findR n S k k < n then _ else none) = none
    rw [if_neg (by omega)]
  unfold detF
  rw [dts_none this (by omega)]
theorem dts_yes {n : Nat} {M S : Mf} {d : Rat} {k r : Nat} (h : dts n M k = some (S, d)) (hr : findR n S k k = r) (hrn : r < n) : dts n M (k + 1) = some (low (swp S k r) k, (if r = k then d else -d) * swp S k r k k) := by
  show (match dts n M k with | none => none | some (S, d) => _) = _
  rw [h]
  show (if findR n S k k < n then _ else none) = _
  rw [if_pos (by omega), hr]
theorem dts_end {n : Nat} {M S : Mf} {d : Rat} (h : dts n M n = some (S, d)) : detF n M = d := by
  unfold detF; rw [h]
theorem low_sz {n L k : Nat} {M : Mf} (hL : 1 ≤ L) (h : ∀ a b, a < n → b < n → Sz L (M a b)) (hk : k < n) : ∀ i j, i < n → j < n → Sz (4 * L + 1) (low M k i j) := by
  intro i j hi hj
  unfold low
  split
  · exact ((h i j hi hj).sub (((h i k hi hk).div (h k k hk hk) hL).mul (h k j hk hj) (by omega))).more (by omega)
  · exact (h i j hi hj).more (by omega)
theorem Sz.one {L : Nat} (hL : 1 ≤ L) : Sz L 1 := ⟨Nat.lt_of_lt_of_le (show (1 : Rat).num.natAbs < wp 1 by decide) (wp_le hL), Nat.lt_of_lt_of_le (show (1 : Rat).den < wp 1 by decide) (wp_le hL)⟩
theorem dts_sz {n L : Nat} {M : Mf} (hL : 1 ≤ L) (h : ∀ a b, a < n → b < n → Sz L (M a b)) : ∀ k, k ≤ n → ∀ S d, dts n M k = some (S, d) → (∀ a b, a < n → b < n → Sz (gl L k) (S a b)) ∧ Sz (gl L k) d := by
  intro k
  induction k with
  | zero =>
    intro _ S d e
    have e : some (M, (1 : Rat)) = some (S, d) := e
    injection e with e
    injection e with e1 e2
    subst e1 e2
    exact ⟨h, Sz.one hL⟩
  | succ k ih =>
    intro hk S d e
    cases e2 : dts n M k with
    | none =>
      rw [dts_none e2 (show k ≤ k + 1 by omega)] at e; cases e
    | some sd =>
      obtain ⟨S0, d0⟩ := sd
      obtain ⟨h1, h2⟩ := ih (by omega) S0 d0 e2
      by_cases hr : findR n S0 k k < n
      · rw [dts_yes e2 rfl hr] at e
        injection e with e
        injection e with e3 e4
        subst e3 e4
        have hsw := swp_sz h1 (show k < n by omega) hr
        refine ⟨low_sz (gl_pos hL k) hsw (by omega), ?_⟩
        have hp := hsw k k (by omega) (by omega)
        have hd : Sz (gl L k) (if findR n S0 k k = k then d0 else -d0) := by split; exact h2; exact h2.neg
        exact (hd.mul hp (gl_pos hL k)).more (by show _ ≤ 4 * gl L k + 1; omega)
      · have : dts n M (k + 1) = none := by
          show (match dts n M k with | none => none | some (S, d) => _) = none
          rw [e2]
          show (if findR n S0 k k < n then _ else none) = none
          rw [if_neg hr]
        rw [this] at e; cases e
/-- rows below k, as far as row i -/
def lw (S : Mf) (k i : Nat) : Mf := fun x j => if k < x ∧ x < i then S x j - (S x k / S k k) * S k j else S x j
theorem lw_start (S : Mf) (k : Nat) : lw S k (k + 1) = S := by
  funext x j
  unfold lw
  rw [if_neg (by omega)]
theorem lw_end {S : Mf} {k n x j : Nat} (hx : x < n) : lw S k n x j = low S k x j := by
  unfold lw low
  by_cases h : k < x
  · rw [if_pos ⟨h, hx⟩, if_pos h]
  · rw [if_neg (by omega), if_neg h]
theorem lw_row {S : Mf} {k i : Nat} : lw S k i i = S i := by funext j; unfold lw; rw [if_neg (by omega)]
theorem lw_piv {S : Mf} {k i : Nat} : lw S k i k = S k := by funext j; unfold lw; rw [if_neg (by omega)]
theorem lw_step {S : Mf} {k i : Nat} (h : k < i) : ∀ x j, (if x = i then S i j - (S i k / S k k) * S k j else lw S k i x j) = lw S k (i + 1) x j := by
  intro x j
  unfold lw
  by_cases hx : x = i
  · subst hx
    rw [if_pos rfl, if_pos ⟨h, by omega⟩]
  · rw [if_neg hx]
    by_cases h2 : k < x ∧ x < i
    · rw [if_pos h2, if_pos ⟨h2.1, by omega⟩]
    · rw [if_neg h2, if_neg (by omega)]
end Go.Proofs.YtnljncncnohncaaDoor
