/- Contracts of functions and lemmas, used by the proofs of the given statements. No condition beyond those that each lemma names. -/
import Derived.Test.YtnljncncnohncaaDoorJNumQ
namespace Go.Proofs.YtnljncncnohncaaDoor
set_option linter.unusedSimpArgs false
set_option linter.unusedVariables false
/-! ## the reduced form, on matrices as functions (plain) -/
abbrev Mf := Nat → Nat → Rat
def upd {α : Type} (f : Nat → α) (k : Nat) (x : α) : Nat → α := fun j => if j = k then x else f j
def dotS (x y : Nat → Rat) : Nat → Rat
  | 0 => 0
  | k + 1 => dotS x y k + x k * y k
def findF (M : Mf) (k : Nat) : Nat → Nat → Nat
  | 0, a => a
  | f + 1, a => if M a k = 0 then findF M k f (a + 1) else a
/-- the first row from a on, of n, that is not 0 at column k; n if there is none -/
def findR (n : Nat) (M : Mf) (k a : Nat) : Nat := findF M k (n - a) a
theorem findF_eq {M : Mf} {k : Nat} : ∀ {f a r : Nat}, a ≤ r → r ≤ a + f → (∀ i, a ≤ i → i < r → M i k = 0) → (r = a + f ∨ M r k ≠ 0) → findF M k f a = r := by
  intro f
  induction f with
  | zero => intro a r h1 h2 _ _; unfold findF; omega
  | succ f ih =>
    intro a r h1 h2 h3 h4
    unfold findF
    by_cases h : M a k = 0
    · rw [if_pos h]
      have hne : a ≠ r := by
        rintro rfl
        rcases h4 with h4 | h4
        · omega
        · exact h4 h
      exact ih (by omega) (by omega) (fun i hi hr => h3 i (by omega) hr) (h4.imp (fun e => by omega) id)
    · rw [if_neg h]
      rcases Nat.lt_or_ge a r with h5 | h5
      · exact absurd (h3 a (Nat.le_refl _) h5) h
      · omega
theorem findF_spec {M : Mf} {k : Nat} : ∀ {f a : Nat}, a ≤ findF M k f a ∧ findF M k f a ≤ a + f ∧ (∀ i, a ≤ i → i < findF M k f a → M i k = 0) ∧ (findF M k f a = a + f ∨ M (findF M k f a) k ≠ 0) := by
  intro f
  induction f with
  | zero => intro a; unfold findF; exact ⟨Nat.le_refl _, Nat.le_refl _, fun i h1 h2 => by omega, .inl rfl⟩
  | succ f ih =>
    intro a
    unfold findF
    by_cases h : M a k = 0
    · rw [if_pos h]
      obtain ⟨h1, h2, h3, h4⟩ := ih (a := a + 1)
      refine ⟨by omega, by omega, fun i hi hr => ?_, h4.imp (fun e => by omega) id⟩
      rcases Nat.lt_or_ge a i with h5 | h5
      · exact h3 i h5 hr
      · have : i = a := by omega
        rw [this]; exact h
    · rw [if_neg h]
      exact ⟨Nat.le_refl _, by omega, fun i h1 h2 => by omega, .inr h⟩
theorem findR_eq {n : Nat} {M : Mf} {k a r : Nat} (h1 : a ≤ r) (h2 : r ≤ n) (h3 : ∀ i, a ≤ i → i < r → M i k = 0) (h4 : r = n ∨ M r k ≠ 0) : findR n M k a = r :=
  findF_eq h1 (by omega) h3 (h4.imp (fun e => by omega) id)
theorem findR_spec {n : Nat} {M : Mf} {k a : Nat} (ha : a ≤ n) : a ≤ findR n M k a ∧ findR n M k a ≤ n ∧ (∀ i, a ≤ i → i < findR n M k a → M i k = 0) ∧ (findR n M k a < n → M (findR n M k a) k ≠ 0) := by
  obtain ⟨h1, h2, h3, h4⟩ := findF_spec (M := M) (k := k) (f := n - a) (a := a)
  refine ⟨h1, by unfold findR; omega, h3, fun h => ?_⟩
  rcases h4 with h4 | h4
  · unfold findR at h; omega
  · exact h4
def swp (M : Mf) (i j : Nat) : Mf := fun a => if a = i then M j else if a = j then M i else M a
theorem swp_self (M : Mf) (i : Nat) : swp M i i = M := by
  funext a; unfold swp; split
  · rename_i h; rw [h]
  · rfl
/-- the pivot's row is divided, and subtracted from the others -/
def elim (S : Mf) (a k : Nat) : Mf := fun i j => if i = a then S a j / S a k else S i j - S i k * (S a j / S a k)
/-- one column -/
def gjS (n k : Nat) (s : Mf × List Nat) : Mf × List Nat :=
  if findR n s.1 k s.2.length < n then (elim (swp s.1 s.2.length (findR n s.1 k s.2.length)) s.2.length k, s.2 ++ [k]) else s
/-- behind the columns ahead of k -/
def gj (n : Nat) (M : Mf) : Nat → Mf × List Nat
  | 0 => (M, [])
  | k + 1 => gjS n k (gj n M k)
theorem gj_succ (n : Nat) (M : Mf) (k : Nat) : gj n M (k + 1) = gjS n k (gj n M k) := rfl
theorem gjS_no {n k : Nat} {s : Mf × List Nat} (h : findR n s.1 k s.2.length = n) : gjS n k s = s := by
  unfold gjS; rw [if_neg (by omega)]
theorem gjS_yes {n k r : Nat} {s : Mf × List Nat} (h : findR n s.1 k s.2.length = r) (hr : r < n) : gjS n k s = (elim (swp s.1 s.2.length r) s.2.length k, s.2 ++ [k]) := by
  unfold gjS; rw [if_pos (by omega), h]
theorem gj_len_le {n : Nat} {M : Mf} (k : Nat) : (gj n M k).2.length ≤ k ∧ (gj n M k).2.length ≤ n := by
  induction k with
  | zero => exact ⟨Nat.le_refl _, Nat.zero_le _⟩
  | succ k ih =>
    rw [gj_succ]
    unfold gjS
    split
    · rename_i h
      have := (findR_spec (n := n) (M := (gj n M k).1) (k := k) ih.2).1
      simp only [List.length_append, List.length_singleton]
      omega
    · omega
theorem gj_full {n : Nat} {M : Mf} {k : Nat} (h : (gj n M k).2.length = n) : ∀ {c : Nat}, k ≤ c → gj n M c = gj n M k := by
  intro c hc
  induction c with
  | zero => have : k = 0 := by omega
            rw [this]
  | succ c ih =>
    rcases Nat.lt_or_ge c k with h1 | h1
    · have : k = c + 1 := by omega
      rw [this]
    · have e := ih h1
      rw [gj_succ, gjS_no, e]
      rw [e, h]
      have := findR_spec (n := n) (M := (gj n M k).1) (k := c) (a := n) (Nat.le_refl _)
      omega
theorem gj_lt {n : Nat} {M : Mf} (k : Nat) : ∀ x ∈ (gj n M k).2, x < k := by
  induction k with
  | zero => intro x hx; cases hx
  | succ k ih =>
    rw [gj_succ]
    intro x hx
    unfold gjS at hx
    split at hx
    · rw [List.mem_append] at hx
      rcases hx with hx | hx
      · have := ih x hx; omega
      · simp at hx; omega
    · have := ih x hx; omega
/-! ## how great the words become -/
def gl (L : Nat) : Nat → Nat
  | 0 => L
  | k + 1 => 4 * gl L k + 1
theorem gl_pos {L : Nat} (hL : 1 ≤ L) (k : Nat) : 1 ≤ gl L k := by
  cases k with
  | zero => exact hL
  | succ k => unfold gl; omega
theorem gl_mono {L : Nat} {j k : Nat} (h : j ≤ k) : gl L j ≤ gl L k := by
  induction k with
  | zero => have : j = 0 := by omega
            rw [this]; exact Nat.le_refl _
  | succ k ih =>
    rcases Nat.lt_or_ge j (k + 1) with h1 | h1
    · have := ih (by omega); show _ ≤ 4 * gl L k + 1; omega
    · have : j = k + 1 := by omega
      rw [this]; exact Nat.le_refl _
theorem swp_sz {n c L i j : Nat} {M : Mf} (h : ∀ a b, a < n → b < c → Sz L (M a b)) (hi : i < n) (hj : j < n) : ∀ a b, a < n → b < c → Sz L (swp M i j a b) := by
  intro a b ha hb
  unfold swp
  split
  · exact h j b hj hb
  · split
    · exact h i b hi hb
    · exact h a b ha hb
theorem elim_sz {n c L a k : Nat} {M : Mf} (hL : 1 ≤ L) (h : ∀ a b, a < n → b < c → Sz L (M a b)) (ha : a < n) (hk : k < c) : ∀ i j, i < n → j < c → Sz (4 * L + 1) (elim M a k i j) := by
  intro i j hi hj
  have hd := (h a j ha hj).div (h a k ha hk) hL
  unfold elim
  split
  · exact hd.more (by omega)
  · exact ((h i j hi hj).sub ((h i k hi hk).mul hd hL)).more (by omega)
theorem gj_sz {n c L : Nat} {M : Mf} (hL : 1 ≤ L) (h : ∀ a b, a < n → b < c → Sz L (M a b)) : ∀ k, k ≤ c → ∀ a b, a < n → b < c → Sz (gl L k) ((gj n M k).1 a b) := by
  intro k
  induction k with
  | zero => intro _; exact h
  | succ k ih =>
    intro hk
    have ih := ih (by omega)
    rw [gj_succ]
    unfold gjS
    split
    · rename_i hr
      have hl := (gj_len_le (n := n) (M := M) k).2
      have ha : (gj n M k).2.length < n := by
        have := (findR_spec (n := n) (M := (gj n M k).1) (k := k) hl).1
        omega
      exact elim_sz (gl_pos hL k) (swp_sz ih ha hr) ha (by omega)
    · intro a b ha hb
      exact (ih a b ha hb).more (gl_mono (by omega))
end Go.Proofs.YtnljncncnohncaaDoor
namespace Go.Proofs.YtnljncncnohncaaDoor
set_option linter.unusedSimpArgs false
set_option linter.unusedVariables false
/-! ## the determinant (plain) -/
/-- the pivot's row is subtracted from those below -/
def low (S : Mf) (k : Nat) : Mf := fun i j => if k < i then S i j - (S i k / S k k) * S k j else S i j
def dts (n : Nat) (M : Mf) : Nat → Option (Mf × Rat)
  | 0 => some (M, 1)
  | k + 1 => match dts n M k with
    | none => none
    | some (S, d) => if findR n S k k < n then some (low (swp S k (findR n S k k)) k, (if findR n S k k = k then d else -d) * swp S k (findR n S k k) k k) else none
def detF (n : Nat) (M : Mf) : Rat := match dts n M n with
  | none => 0
  | some (_, d) => d
theorem dts_none {n : Nat} {M : Mf} {k c : Nat} (h : dts n M k = none) (hc : k ≤ c) : dts n M c = none := by
  induction c with
  | zero => have : k = 0 := by omega
            rw [← this]; exact h
  | succ c ih =>
    rcases Nat.lt_or_ge c k with h1 | h1
    · have : k = c + 1 := by omega
      rw [← this]; exact h
    · show (match dts n M c with | none => none | some (S, d) => _) = none
      rw [ih h1]
theorem dts_no {n : Nat} {M S : Mf} {d : Rat} {k : Nat} (h : dts n M k = some (S, d)) (hk : k < n) (hr : findR n S k k = n) : detF n M = 0 := by
  have : dts n M (k + 1) = none := by
    show (match dts n M k with | none => none | some (S, d) => _) = none
    rw [h]
    show (if findR n S k k < n then _ else none) = none
    rw [if_neg (by omega)]
  unfold detF
  rw [dts_none this (by omega)]
theorem dts_yes {n : Nat} {M S : Mf} {d : Rat} {k r : Nat} (h : dts n M k = some (S, d)) (hr : findR n S k k = r) (hrn : r < n) : dts n M (k + 1) = some (low (swp S k r) k, (if r = k then d else -d) * swp S k r k k) := by
  show (match dts n M k with | none => none | some (S, d) => _) = _
  rw [h]
  show (if findR n S k k < n then _ else none) = _
  rw [if_pos (by omega), hr]
theorem dts_end {n : Nat} {M S : Mf} {d : Rat} (h : dts n M n = some (S, d)) : detF n M = d := by
  unfold detF; rw [h]
theorem low_sz {n L k : Nat} {M : Mf} (hL : 1 ≤ L) (h : ∀ a b, a < n → b < n → Sz L (M a b)) (hk : k < n) : ∀ i j, i < n → j < n → Sz (4 * L + 1) (low M k i j) := by
  intro i j hi hj
  unfold low
  split
  · exact ((h i j hi hj).sub (((h i k hi hk).div (h k k hk hk) hL).mul (h k j hk hj) (by omega))).more (by omega)
  · exact (h i j hi hj).more (by omega)
theorem Sz.one {L : Nat} (hL : 1 ≤ L) : Sz L 1 := ⟨Nat.lt_of_lt_of_le (show (1 : Rat).num.natAbs < wp 1 by decide) (wp_le hL), Nat.lt_of_lt_of_le (show (1 : Rat).den < wp 1 by decide) (wp_le hL)⟩
theorem dts_sz {n L : Nat} {M : Mf} (hL : 1 ≤ L) (h : ∀ a b, a < n → b < n → Sz L (M a b)) : ∀ k, k ≤ n → ∀ S d, dts n M k = some (S, d) → (∀ a b, a < n → b < n → Sz (gl L k) (S a b)) ∧ Sz (gl L k) d := by
  intro k
  induction k with
  | zero =>
    intro _ S d e
    have e : some (M, (1 : Rat)) = some (S, d) := e
    injection e with e
    injection e with e1 e2
    subst e1 e2
    exact ⟨h, Sz.one hL⟩
  | succ k ih =>
    intro hk S d e
    cases e2 : dts n M k with
    | none =>
      rw [dts_none e2 (show k ≤ k + 1 by omega)] at e; cases e
    | some sd =>
      obtain ⟨S0, d0⟩ := sd
      obtain ⟨h1, h2⟩ := ih (by omega) S0 d0 e2
      by_cases hr : findR n S0 k k < n
      · rw [dts_yes e2 rfl hr] at e
        injection e with e
        injection e with e3 e4
        subst e3 e4
        have hsw := swp_sz h1 (show k < n by omega) hr
        refine ⟨low_sz (gl_pos hL k) hsw (by omega), ?_⟩
        have hp := hsw k k (by omega) (by omega)
        have hd : Sz (gl L k) (if findR n S0 k k = k then d0 else -d0) := by split; exact h2; exact h2.neg
        exact (hd.mul hp (gl_pos hL k)).more (by show _ ≤ 4 * gl L k + 1; omega)
      · have : dts n M (k + 1) = none := by
          show (match dts n M k with | none => none | some (S, d) => _) = none
          rw [e2]
          show (if findR n S0 k k < n then _ else none) = none
          rw [if_neg hr]
        rw [this] at e; cases e
/-- rows below k, as far as row i -/
def lw (S : Mf) (k i : Nat) : Mf := fun x j => if k < x ∧ x < i then S x j - (S x k / S k k) * S k j else S x j
theorem lw_start (S : Mf) (k : Nat) : lw S k (k + 1) = S := by
  funext x j
  unfold lw
  rw [if_neg (by omega)]
theorem lw_end {S : Mf} {k n x j : Nat} (hx : x < n) : lw S k n x j = low S k x j := by
  unfold lw low
  by_cases h : k < x
  · rw [if_pos ⟨h, hx⟩, if_pos h]
  · rw [if_neg (by omega), if_neg h]
theorem lw_row {S : Mf} {k i : Nat} : lw S k i i = S i := by funext j; unfold lw; rw [if_neg (by omega)]
theorem lw_piv {S : Mf} {k i : Nat} : lw S k i k = S k := by funext j; unfold lw; rw [if_neg (by omega)]
theorem lw_step {S : Mf} {k i : Nat} (h : k < i) : ∀ x j, (if x = i then S i j - (S i k / S k k) * S k j else lw S k i x j) = lw S k (i + 1) x j := by
  intro x j
  unfold lw
  by_cases hx : x = i
  · subst hx
    rw [if_pos rfl, if_pos ⟨h, by omega⟩]
  · rw [if_neg hx]
    by_cases h2 : k < x ∧ x < i
    · rw [if_pos h2, if_pos ⟨h2.1, by omega⟩]
    · rw [if_neg h2, if_neg (by omega)]
end Go.Proofs.YtnljncncnohncaaDoor
namespace Go.Proofs.YtnljncncnohncaaDoor
set_option linter.unusedSimpArgs false
set_option linter.unusedVariables false
/-! ## the reduced form: what its steps keep (plain) -/
structure LinZ (Z : (Nat → Rat) → Prop) : Prop where
  add : ∀ u v, Z u → Z v → Z (fun j => u j + v j)
  smul : ∀ (q : Rat) u, Z u → Z (fun j => q * u j)
theorem LinZ.acc {Z : (Nat → Rat) → Prop} (h : LinZ Z) {u v w : Nat → Rat} {q : Rat} (hu : Z u) (hv : Z v) (e : ∀ j, w j = u j + q * v j) : Z w := by
  have := h.add u _ hu (h.smul q v hv)
  rwa [show (fun j => u j + q * v j) = w from funext fun j => (e j).symm] at this
theorem LinZ.mul {Z : (Nat → Rat) → Prop} (h : LinZ Z) {v w : Nat → Rat} {q : Rat} (hv : Z v) (e : ∀ j, w j = q * v j) : Z w := by
  have := h.smul q v hv
  rwa [show (fun j => q * v j) = w from funext fun j => (e j).symm] at this
theorem div_mul_self {p x : Rat} (h : p ≠ 0) : p * (x / p) = x := by grind
theorem elim_piv {S : Mf} {a k : Nat} : elim S a k a = fun j => S a j / S a k := by funext j; unfold elim; rw [if_pos rfl]
theorem elim_row {S : Mf} {a k i : Nat} (h : i ≠ a) : elim S a k i = fun j => S i j - S i k * (S a j / S a k) := by funext j; unfold elim; rw [if_neg h]
theorem elim_subZ {Z : (Nat → Rat) → Prop} (hZ : LinZ Z) {n : Nat} {S : Mf} {a k : Nat} (ha : a < n) (hp : S a k ≠ 0) : (∀ i, i < n → Z (elim S a k i)) ↔ ∀ i, i < n → Z (S i) := by
  constructor
  · intro h i hi
    have h0 := h a ha
    rw [elim_piv] at h0
    by_cases e : i = a
    · subst e
      exact hZ.mul (q := S i k) h0 fun j => (div_mul_self hp).symm
    · have h1 := h i hi
      rw [elim_row e] at h1
      exact hZ.acc (q := S i k) h1 h0 fun j => by grind
  · intro h i hi
    have h0 : Z (fun j => S a j / S a k) := hZ.mul (q := 1 / S a k) (h a ha) fun j => by grind
    by_cases e : i = a
    · subst e; rw [elim_piv]; exact h0
    · rw [elim_row e]
      exact hZ.acc (q := - S i k) (h i hi) h0 fun j => by grind
theorem swp_l (M : Mf) (i j : Nat) : swp M i j i = M j := by unfold swp; rw [if_pos rfl]
theorem swp_r (M : Mf) (i j : Nat) : swp M i j j = M i := by
  unfold swp
  by_cases h : j = i
  · rw [if_pos h, h]
  · rw [if_neg h, if_pos rfl]
theorem swp_o (M : Mf) {i j a : Nat} (h1 : a ≠ i) (h2 : a ≠ j) : swp M i j a = M a := by unfold swp; rw [if_neg h1, if_neg h2]
theorem swp_all {Z : (Nat → Rat) → Prop} {n : Nat} {M : Mf} {i j : Nat} (hi : i < n) (hj : j < n) : (∀ a, a < n → Z (swp M i j a)) ↔ ∀ a, a < n → Z (M a) := by
  constructor
  · intro h a ha
    by_cases e : a = i
    · have := h j hj; rw [swp_r] at this; rw [e]; exact this
    · by_cases e2 : a = j
      · have := h i hi; rw [swp_l] at this; rw [e2]; exact this
      · have := h a ha; rwa [swp_o M e e2] at this
  · intro h a ha
    by_cases e : a = i
    · rw [e, swp_l]; exact h j hj
    · by_cases e2 : a = j
      · rw [e2, swp_r]; exact h i hi
      · rw [swp_o M e e2]; exact h a ha
/-- a step that finds a pivot -/
theorem gj_step (n : Nat) (M : Mf) (k : Nat) : (gj n M (k + 1) = gj n M k ∧ ∀ i, (gj n M k).2.length ≤ i → i < n → (gj n M k).1 i k = 0) ∨
    ∃ r, (gj n M k).2.length ≤ r ∧ r < n ∧ (gj n M k).2.length < n ∧ (gj n M k).1 r k ≠ 0 ∧ gj n M (k + 1) = (elim (swp (gj n M k).1 (gj n M k).2.length r) (gj n M k).2.length k, (gj n M k).2 ++ [k]) ∧ swp (gj n M k).1 (gj n M k).2.length r (gj n M k).2.length k ≠ 0 ∧ findR n (gj n M k).1 k (gj n M k).2.length = r := by
  have hl := (gj_len_le (n := n) (M := M) k).2
  obtain ⟨h1, h2, h3, h4⟩ := findR_spec (n := n) (M := (gj n M k).1) (k := k) hl
  by_cases h : findR n (gj n M k).1 k (gj n M k).2.length < n
  · refine .inr ⟨_, h1, h, by omega, h4 h, ?_, ?_, rfl⟩
    · rw [gj_succ]; exact gjS_yes rfl h
    · rw [swp_l]; exact h4 h
  · refine .inl ⟨?_, fun i hi hn => h3 i hi (by omega)⟩
    rw [gj_succ]; exact gjS_no (by omega)
/-- a space of rows that holds all rows holds all of the reduced form, and the other way -/
theorem gj_subZ {Z : (Nat → Rat) → Prop} (hZ : LinZ Z) {n : Nat} {M : Mf} : ∀ k, (∀ i, i < n → Z ((gj n M k).1 i)) ↔ ∀ i, i < n → Z (M i)
  | 0 => Iff.rfl
  | k + 1 => by
    have ih := gj_subZ hZ (n := n) (M := M) k
    rcases gj_step n M k with ⟨h, _⟩ | ⟨r, h1, h2, h3, h4, h5, h6, _⟩
    · rw [h]; exact ih
    · rw [h5]
      exact (elim_subZ hZ h3 h6).trans ((swp_all h3 h2).trans ih)
theorem elim_colk {S : Mf} {a k i : Nat} (hp : S a k ≠ 0) : elim S a k i k = if i = a then 1 else 0 := by
  unfold elim
  by_cases h : i = a
  · rw [if_pos h, if_pos h]; grind
  · rw [if_neg h, if_neg h]; grind
theorem elim_zero0 {S : Mf} {a k i j : Nat} (h : S a j = 0) (hi : i ≠ a) : elim S a k i j = S i j := by
  unfold elim; rw [if_neg hi, h]; grind
theorem elim_zeroa {S : Mf} {a k j : Nat} (h : S a j = 0) : elim S a k a j = 0 := by
  unfold elim; rw [if_pos rfl, h]; grind
/-- the columns of the pivots are unit columns; below the pivots' rows nothing is left -/
theorem gj_form {n : Nat} {M : Mf} : ∀ k, (∀ t (ht : t < (gj n M k).2.length) i, (gj n M k).1 i ((gj n M k).2[t]) = if i = t then 1 else 0) ∧ ∀ i j, (gj n M k).2.length ≤ i → i < n → j < k → (gj n M k).1 i j = 0
  | 0 => ⟨fun t ht => absurd ht (Nat.not_lt_zero _), fun i j _ _ hj => absurd hj (Nat.not_lt_zero _)⟩
  | k + 1 => by
    obtain ⟨ih1, ih2⟩ := gj_form (n := n) (M := M) k
    rcases gj_step n M k with ⟨h, hz⟩ | ⟨r, h1, h2, h3, h4, h5, h6, _⟩
    · rw [h]
      refine ⟨ih1, fun i j hi hn hj => ?_⟩
      by_cases e : j = k
      · rw [e]; exact hz i hi hn
      · exact ih2 i j hi hn (by omega)
    · rw [h5]
      generalize hs : gj n M k = s at *
      obtain ⟨S, p⟩ := s
      simp only at *
      have hr : ∀ t (ht : t < p.length) i, swp S p.length r i (p[t]) = if i = t then 1 else 0 := by
        intro t ht i
        by_cases e : i = p.length
        · rw [e, swp_l, ih1 t ht, if_neg (by omega), if_neg (by omega)]
        · by_cases e2 : i = r
          · rw [e2, swp_r, ih1 t ht, if_neg (by omega), if_neg (by omega)]
          · rw [swp_o S e e2, ih1 t ht]
      have hz : ∀ i j, p.length ≤ i → i < n → j < k → swp S p.length r i j = 0 := by
        intro i j hi hn hj
        by_cases e : i = p.length
        · rw [e, swp_l]; exact ih2 r j h1 h2 hj
        · by_cases e2 : i = r
          · rw [e2, swp_r]; exact ih2 _ j (Nat.le_refl _) h3 hj
          · rw [swp_o S e e2]; exact ih2 i j hi hn hj
      refine ⟨fun t ht i => ?_, fun i j hi hn hj => ?_⟩
      · rw [List.length_append, List.length_singleton] at ht
        by_cases e : t = p.length
        · subst e
          rw [List.getElem_concat_length (by rfl)]
          exact elim_colk h6
        · have htl : t < p.length := by omega
          rw [List.getElem_append_left htl]
          have h0 : swp S p.length r p.length (p[t]) = 0 := by rw [hr t htl, if_neg (by omega)]
          by_cases e2 : i = p.length
          · rw [e2, elim_zeroa h0, if_neg (by omega)]
          · rw [elim_zero0 h0 e2, hr t htl]
      · rw [List.length_append, List.length_singleton] at hi
        by_cases e : j = k
        · rw [e, elim_colk h6, if_neg (by omega)]
        · have h0 := hz p.length j (Nat.le_refl _) h3 (by omega)
          rw [elim_zero0 h0 (by omega)]
          exact hz i j (by omega) hn (by omega)
/-- the pivots' columns ascend -/
theorem gj_asc {n : Nat} {M : Mf} : ∀ k t u (ht : t < u) (hu : u < (gj n M k).2.length), (gj n M k).2[t]'(by omega) < (gj n M k).2[u]
  | 0, t, u, ht, hu => by cases hu
  | k + 1, t, u, ht, hu => by
    rcases gj_step n M k with ⟨h, hz⟩ | ⟨r, h1, h2, h3, h4, h5, h6, _⟩
    · simp only [h] at hu ⊢
      exact gj_asc k t u ht hu
    · simp only [h5, List.length_append, List.length_singleton] at hu ⊢
      by_cases e : u = (gj n M k).2.length
      · subst e
        rw [List.getElem_append_left ht, List.getElem_concat_length (by rfl)]
        exact gj_lt k _ (List.getElem_mem _)
      · rw [List.getElem_append_left (show u < (gj n M k).2.length by omega), List.getElem_append_left (show t < (gj n M k).2.length by omega)]
        exact gj_asc k t u ht (by omega)
/-! ## sums of products -/
theorem dotS_congr {x y x' y' : Nat → Rat} : ∀ {n}, (∀ k, k < n → x k = x' k) → (∀ k, k < n → y k = y' k) → dotS x y n = dotS x' y' n
  | 0, _, _ => rfl
  | n + 1, hx, hy => by
    unfold dotS
    rw [dotS_congr (fun k hk => hx k (by omega)) (fun k hk => hy k (by omega)), hx n (by omega), hy n (by omega)]
theorem dotS_add (x x' y : Nat → Rat) : ∀ n, dotS (fun k => x k + x' k) y n = dotS x y n + dotS x' y n
  | 0 => by unfold dotS; grind
  | n + 1 => by unfold dotS; rw [dotS_add x x' y n]; grind
theorem dotS_smul (q : Rat) (x y : Nat → Rat) : ∀ n, dotS (fun k => q * x k) y n = q * dotS x y n
  | 0 => by unfold dotS; grind
  | n + 1 => by unfold dotS; rw [dotS_smul q x y n]; grind
theorem dotS_zero {x y : Nat → Rat} : ∀ {n}, (∀ k, k < n → x k * y k = 0) → dotS x y n = 0
  | 0, _ => rfl
  | n + 1, h => by unfold dotS; rw [dotS_zero fun k hk => h k (by omega), h n (by omega)]; grind
/-- one element of a vector is changed -/
theorem dotS_upd {v x : Nat → Rat} {j : Nat} {q : Rat} : ∀ {n}, dotS v (upd x j q) n = dotS v x n + (if j < n then v j * (q - x j) else 0)
  | 0 => by unfold dotS; rw [if_neg (by omega)]; grind
  | n + 1 => by
    unfold dotS
    rw [dotS_upd (n := n)]
    by_cases h : j = n
    · subst h
      rw [if_neg (by omega), if_pos (by omega)]
      unfold upd
      rw [if_pos rfl]
      grind
    · have : upd x j q n = x n := by unfold upd; rw [if_neg (by omega)]
      rw [this]
      by_cases h2 : j < n
      · rw [if_pos h2, if_pos (by omega)]; grind
      · rw [if_neg h2, if_neg (by omega)]; grind
theorem dotS_one {y : Nat → Rat} {t : Nat} : ∀ {n}, dotS (fun s => if s = t then 1 else 0) y n = if t < n then y t else 0
  | 0 => by unfold dotS; simp
  | n + 1 => by
    unfold dotS
    rw [dotS_one (n := n)]
    by_cases h : n = t
    · subst h; rw [if_neg (by omega), if_pos rfl, if_pos (by omega)]; grind
    · rw [if_neg h]
      by_cases h2 : t < n
      · rw [if_pos h2, if_pos (by omega)]; grind
      · rw [if_neg h2, if_neg (by omega)]; grind
/-! ## each row is the sum of the reduced form's rows -/
def pv (p : List Nat) (t : Nat) : Nat := p.getD t 0
theorem pv_at {p : List Nat} {t : Nat} (h : t < p.length) : pv p t = p[t] := by unfold pv; simp [List.getD, h]
theorem gj_unit {n : Nat} {M : Mf} {k t i : Nat} (ht : t < (gj n M k).2.length) : (gj n M k).1 i (pv (gj n M k).2 t) = if i = t then 1 else 0 := by
  rw [pv_at ht]; exact (gj_form k).1 t ht i
theorem gj_rows {n c : Nat} {M : Mf} : ∀ i, i < n → ∀ j, j < c → M i j = dotS (fun t => M i (pv (gj n M c).2 t)) (fun t => (gj n M c).1 t j) (gj n M c).2.length := by
  have hZ : LinZ fun v => ∀ j, j < c → v j = dotS (fun t => v (pv (gj n M c).2 t)) (fun t => (gj n M c).1 t j) (gj n M c).2.length := by
    refine ⟨fun u v hu hv j hj => ?_, fun q u hu j hj => ?_⟩
    · show u j + v j = _
      rw [dotS_add, ← hu j hj, ← hv j hj]
    · show q * u j = _
      rw [dotS_smul, ← hu j hj]
  refine (gj_subZ hZ c).1 fun i hi j hj => ?_
  by_cases h : i < (gj n M c).2.length
  · rw [dotS_congr (x' := fun s => if s = i then 1 else 0) (y' := fun t => (gj n M c).1 t j) (fun t ht => by rw [gj_unit ht]; by_cases e : i = t <;> simp [e, eq_comm]) (fun _ _ => rfl), dotS_one, if_pos h]
  · rw [dotS_zero fun t ht => by rw [gj_unit ht, if_neg (by omega)]; grind]
    exact (gj_form c).2 i j (by omega) hi hj
/-! ## the kernel -/
/-- the vector of a free column, as far as the pivot t -/
def kx (n : Nat) (M : Mf) (c k : Nat) : Nat → Nat → Rat
  | 0 => upd (fun _ => 0) k 1
  | t + 1 => upd (kx n M c k t) (pv (gj n M c).2 t) (-(gj n M c).1 t k)
theorem kx_far {n c k : Nat} {M : Mf} : ∀ {t j}, t ≤ (gj n M c).2.length → j ≠ k → (∀ s, s < t → j ≠ pv (gj n M c).2 s) → kx n M c k t j = 0
  | 0, j, _, hj, _ => by unfold kx upd; rw [if_neg hj]
  | t + 1, j, h, hj, hs => by
    unfold kx
    have : upd (kx n M c k t) (pv (gj n M c).2 t) (-(gj n M c).1 t k) j = kx n M c k t j := by unfold upd; rw [if_neg (hs t (by omega))]
    rw [this]
    exact kx_far (by omega) hj fun s h => hs s (by omega)
theorem pv_ne {n c : Nat} {M : Mf} {s t : Nat} (hs : s < t) (ht : t < (gj n M c).2.length) : pv (gj n M c).2 t ≠ pv (gj n M c).2 s := by
  rw [pv_at ht, pv_at (by omega)]
  exact Nat.ne_of_gt (gj_asc c s t hs ht)
theorem pv_lt {n c : Nat} {M : Mf} {t : Nat} (ht : t < (gj n M c).2.length) : pv (gj n M c).2 t < c := by
  rw [pv_at ht]; exact gj_lt c _ (List.getElem_mem _)
theorem kx_dot {n c k : Nat} {M : Mf} (hk : k < c) (hfree : k ∉ (gj n M c).2) (v : Nat → Rat) : ∀ t, t ≤ (gj n M c).2.length → dotS v (kx n M c k t) c = v k - dotS (fun s => v (pv (gj n M c).2 s)) (fun s => (gj n M c).1 s k) t
  | 0, _ => by
    unfold kx
    rw [dotS_upd, if_pos hk, dotS_zero (x := v) (fun j _ => by grind)]
    unfold dotS
    grind
  | t + 1, h => by
    unfold kx
    have hp : pv (gj n M c).2 t ≠ k := fun e => hfree (by rw [← e, pv_at (by omega)]; exact List.getElem_mem _)
    rw [dotS_upd, if_pos (pv_lt (by omega)), kx_far (by omega) hp fun s hs => pv_ne hs (by omega), kx_dot hk hfree v t (by omega)]
    show _ = v k - (dotS _ _ t + v (pv (gj n M c).2 t) * (gj n M c).1 t k)
    grind
/-- a vector of the kernel is mapped to 0 -/
theorem kx_zero {n c k : Nat} {M : Mf} (hk : k < c) (hfree : k ∉ (gj n M c).2) : ∀ i, i < n → dotS (M i) (kx n M c k (gj n M c).2.length) c = 0 := by
  intro i hi
  rw [kx_dot hk hfree (M i) _ (Nat.le_refl _), ← gj_rows i hi k hk]
  grind
/-- .. and has the element 1 in its own column, 0 in the other free ones -/
theorem kx_own {n c k : Nat} {M : Mf} (hfree : k ∉ (gj n M c).2) : ∀ t, t ≤ (gj n M c).2.length → kx n M c k t k = 1
  | 0, _ => by unfold kx upd; rw [if_pos rfl]
  | t + 1, h => by
    unfold kx
    have hp : k ≠ pv (gj n M c).2 t := fun e => hfree (by rw [e, pv_at (by omega)]; exact List.getElem_mem _)
    have : upd (kx n M c k t) (pv (gj n M c).2 t) (-(gj n M c).1 t k) k = kx n M c k t k := by unfold upd; rw [if_neg hp]
    rw [this]
    exact kx_own hfree t (by omega)
theorem kx_other {n c k j : Nat} {M : Mf} (hj : j ≠ k) (hfree : j ∉ (gj n M c).2) : kx n M c k (gj n M c).2.length j = 0 :=
  kx_far (Nat.le_refl _) hj fun s hs e => hfree (by rw [e, pv_at hs]; exact List.getElem_mem _)
end Go.Proofs.YtnljncncnohncaaDoor
namespace Go.Proofs.YtnljncncnohncaaDoor
set_option linter.unusedSimpArgs false
set_option linter.unusedVariables false
/-! ## the determinant by Laplace (plain) -/
def sm (f : Nat → Rat) : Nat → Rat
  | 0 => 0
  | n + 1 => sm f n + f n
def sgn1 (i : Nat) : Rat := if i % 2 = 0 then 1 else -1
def mnr (i : Nat) (M : Mf) : Mf := fun a b => M (if a < i then a else a + 1) (b + 1)
def D : Nat → Mf → Rat
  | 0, _ => 1
  | n + 1, M => sm (fun i => sgn1 i * M i 0 * D n (mnr i M)) (n + 1)
theorem sm_congr {f g : Nat → Rat} : ∀ {n}, (∀ i, i < n → f i = g i) → sm f n = sm g n
  | 0, _ => rfl
  | n + 1, h => by unfold sm; rw [sm_congr fun i hi => h i (by omega), h n (by omega)]
theorem sm_add (f g : Nat → Rat) : ∀ n, sm (fun i => f i + g i) n = sm f n + sm g n
  | 0 => by unfold sm; grind
  | n + 1 => by unfold sm; rw [sm_add f g n]; grind
theorem sm_smul (q : Rat) (f : Nat → Rat) : ∀ n, sm (fun i => q * f i) n = q * sm f n
  | 0 => by unfold sm; grind
  | n + 1 => by unfold sm; rw [sm_smul q f n]; grind
theorem sm_zero {f : Nat → Rat} : ∀ {n}, (∀ i, i < n → f i = 0) → sm f n = 0
  | 0, _ => rfl
  | n + 1, h => by unfold sm; rw [sm_zero fun i hi => h i (by omega), h n (by omega)]; grind
theorem sm_two {f : Nat → Rat} {i : Nat} (h2 : f i + f (i + 1) = 0) : ∀ {n}, i + 1 < n → (∀ k, k < n → k ≠ i → k ≠ i + 1 → f k = 0) → sm f n = 0
  | 0, h, _ => by omega
  | n + 1, h, hz => by
    unfold sm
    by_cases e : n = i + 1
    · subst e
      unfold sm
      rw [sm_zero fun k hk => hz k (by omega) (by omega) (by omega)]
      grind
    · rw [sm_two h2 (show i + 1 < n by omega) fun k hk => hz k (by omega), hz n (by omega) (by omega) e]
      grind
theorem sm_first {f : Nat → Rat} : ∀ {n}, (∀ i, 0 < i → i < n + 1 → f i = 0) → sm f (n + 1) = f 0
  | 0, _ => by unfold sm sm; grind
  | n + 1, h => by
    unfold sm
    rw [sm_first fun i h1 h2 => h i h1 (by omega), h (n + 1) (by omega) (by omega)]
    grind
theorem sgn1_succ (i : Nat) : sgn1 (i + 1) = - sgn1 i := by
  unfold sgn1
  by_cases h : i % 2 = 0
  · rw [if_pos h, if_neg (by omega)]
  · rw [if_neg h, if_pos (by omega)]; grind
theorem D_succ (n : Nat) (M : Mf) : D (n + 1) M = sm (fun i => sgn1 i * M i 0 * D n (mnr i M)) (n + 1) := rfl
theorem D_congr : ∀ {n} {M N : Mf}, (∀ a b, a < n → b < n → M a b = N a b) → D n M = D n N
  | 0, _, _, _ => rfl
  | n + 1, M, N, h => by
    rw [D_succ, D_succ]
    refine sm_congr fun i hi => ?_
    rw [h i 0 hi (by omega), D_congr (n := n) (M := mnr i M) (N := mnr i N) fun a b ha hb => by
      unfold mnr
      refine h _ _ ?_ (by omega)
      split <;> omega]
theorem upd_at {α : Type} (f : Nat → α) (k : Nat) (x : α) : upd f k x k = x := by unfold upd; rw [if_pos rfl]
theorem upd_off {α : Type} (f : Nat → α) {k j : Nat} (x : α) (h : j ≠ k) : upd f k x j = f j := by unfold upd; rw [if_neg h]
theorem mnr_upd_eq (M : Mf) (i : Nat) (u : Nat → Rat) : mnr i (upd M i u) = mnr i M := by
  funext a b
  unfold mnr
  rw [upd_off]
  split <;> omega
theorem mnr_upd_lt (M : Mf) {i k : Nat} (u : Nat → Rat) (h : i < k) : mnr k (upd M i u) = upd (mnr k M) i (fun b => u (b + 1)) := by
  funext a b
  by_cases e : a = i
  · subst e
    rw [upd_at]
    unfold mnr
    rw [if_pos h, upd_at]
  · rw [upd_off _ _ e]
    unfold mnr
    rw [upd_off]
    split <;> omega
theorem mnr_upd_gt (M : Mf) {i k : Nat} (u : Nat → Rat) (h : k < i) : mnr k (upd M i u) = upd (mnr k M) (i - 1) (fun b => u (b + 1)) := by
  funext a b
  by_cases e : a = i - 1
  · subst e
    rw [upd_at]
    unfold mnr
    rw [if_neg (by omega), show i - 1 + 1 = i by omega, upd_at]
  · rw [upd_off _ _ e]
    unfold mnr
    rw [upd_off]
    split <;> omega
/-- additive in each row -/
theorem D_add : ∀ {n} {M : Mf} {i : Nat} (u v : Nat → Rat), i < n → D n (upd M i fun j => u j + v j) = D n (upd M i u) + D n (upd M i v)
  | n + 1, M, i, u, v, hi => by
    rw [D_succ, D_succ, D_succ, ← sm_add]
    refine sm_congr fun k hk => ?_
    by_cases e : k = i
    · subst e
      rw [upd_at, upd_at, upd_at, mnr_upd_eq, mnr_upd_eq, mnr_upd_eq]
      grind
    · rw [upd_off _ _ e, upd_off _ _ e, upd_off _ _ e]
      by_cases h : i < k
      · rw [mnr_upd_lt _ _ h, mnr_upd_lt _ _ h, mnr_upd_lt _ _ h, D_add (M := mnr k M) (fun b => u (b + 1)) (fun b => v (b + 1)) (show i < n by omega)]
        grind
      · have h2 : k < i := by omega
        rw [mnr_upd_gt _ _ h2, mnr_upd_gt _ _ h2, mnr_upd_gt _ _ h2, D_add (M := mnr k M) (fun b => u (b + 1)) (fun b => v (b + 1)) (show i - 1 < n by omega)]
        grind
theorem D_smul : ∀ {n} {M : Mf} {i : Nat} (q : Rat) (u : Nat → Rat), i < n → D n (upd M i fun j => q * u j) = q * D n (upd M i u)
  | n + 1, M, i, q, u, hi => by
    rw [D_succ, D_succ, ← sm_smul]
    refine sm_congr fun k hk => ?_
    by_cases e : k = i
    · subst e
      rw [upd_at, upd_at, mnr_upd_eq, mnr_upd_eq]
      grind
    · rw [upd_off _ _ e, upd_off _ _ e]
      by_cases h : i < k
      · rw [mnr_upd_lt _ _ h, mnr_upd_lt _ _ h, D_smul (M := mnr k M) q (fun b => u (b + 1)) (show i < n by omega)]
        grind
      · have h2 : k < i := by omega
        rw [mnr_upd_gt _ _ h2, mnr_upd_gt _ _ h2, D_smul (M := mnr k M) q (fun b => u (b + 1)) (show i - 1 < n by omega)]
        grind
/-- two rows that stand side by side are equal -/
theorem D_adj : ∀ {n} {M : Mf} {i : Nat}, i + 1 < n → M i = M (i + 1) → D n M = 0
  | n + 1, M, i, hi, h => by
    rw [D_succ]
    refine sm_two (i := i) ?_ hi fun k hk h1 h2 => ?_
    · have e : mnr (i + 1) M = mnr i M := by
        funext a b
        unfold mnr
        by_cases h1 : a < i
        · rw [if_pos h1, if_pos (by omega)]
        · by_cases h2 : a = i
          · subst h2; rw [if_pos (by omega), if_neg (by omega), h]
          · rw [if_neg h1, if_neg (by omega)]
      rw [e, sgn1_succ, h]
      grind
    · have : D n (mnr k M) = 0 := by
        by_cases h3 : k < i
        · refine D_adj (i := i - 1) (by omega) ?_
          funext b
          unfold mnr
          rw [if_neg (by omega), if_neg (by omega), show i - 1 + 1 = i by omega, h]
        · refine D_adj (i := i) (by omega) ?_
          funext b
          unfold mnr
          rw [if_pos (by omega), if_pos (by omega), h]
      rw [this]
      grind
theorem upd_self1 {α : Type} (f : Nat → α) (k : Nat) : upd f k (f k) = f := by
  funext j
  unfold upd
  split
  · rename_i h; rw [h]
  · rfl
theorem upd_comm1 {α : Type} (f : Nat → α) {i j : Nat} (x y : α) (h : i ≠ j) : upd (upd f i x) j y = upd (upd f j y) i x := by
  funext a
  unfold upd
  by_cases h1 : a = i
  · by_cases h2 : a = j
    · omega
    · rw [if_neg h2, if_pos h1, if_pos h1]
  · by_cases h2 : a = j
    · rw [if_pos h2, if_neg h1, if_pos h2]
    · rw [if_neg h2, if_neg h1, if_neg h1, if_neg h2]
theorem swp_upd (M : Mf) (i j : Nat) (h : i ≠ j) : swp M i j = upd (upd M i (M j)) j (M i) := by
  funext a
  unfold swp upd
  by_cases h1 : a = i
  · rw [if_pos h1, if_neg (by omega), if_pos h1]
  · by_cases h2 : a = j
    · rw [if_neg h1, if_pos h2, if_pos h2]
    · rw [if_neg h1, if_neg h2, if_neg h2, if_neg h1]
/-- if D is 0 where rows i and j are equal, then it turns its sign where they change places -/
theorem D_swap_of {n i j : Nat} (hi : i < n) (hj : j < n) (hij : i ≠ j) (h : ∀ M : Mf, M i = M j → D n M = 0) (M : Mf) : D n (swp M i j) = - D n M := by
  have key : ∀ u v : Nat → Rat, D n (upd (upd M i u) j v) = - D n (upd (upd M i v) j u) := by
    intro u v
    have h0 := h (upd (upd M i fun b => u b + v b) j fun b => u b + v b) (by rw [upd_at, upd_off _ _ hij, upd_at])
    have h1 := h (upd (upd M i u) j u) (by rw [upd_at, upd_off _ _ hij, upd_at])
    have h2 := h (upd (upd M i v) j v) (by rw [upd_at, upd_off _ _ hij, upd_at])
    rw [D_add _ _ hj, upd_comm1 _ _ _ hij, upd_comm1 _ _ _ hij, D_add _ _ hi, D_add _ _ hi, upd_comm1 _ _ _ (Ne.symm hij), upd_comm1 _ _ _ (Ne.symm hij), upd_comm1 _ _ _ (Ne.symm hij), upd_comm1 _ _ _ (Ne.symm hij), h1, h2] at h0
    grind
  rw [swp_upd M i j hij, key, upd_self1, upd_self1]
theorem D_eq : ∀ (d : Nat) {n i : Nat} {M : Mf}, i + 1 + d < n → M i = M (i + 1 + d) → D n M = 0
  | 0, n, i, M, hn, h => D_adj hn h
  | d + 1, n, i, M, hn, h => by
    have h1 := D_swap_of (n := n) (i := i + 1 + d) (j := i + 1 + d + 1) (by omega) (by omega) (by omega) (fun N hN => D_adj (by omega) hN) M
    have h2 : D n (swp M (i + 1 + d) (i + 1 + d + 1)) = 0 := D_eq d (i := i) (by omega) (by rw [swp_l, swp_o _ (by omega) (by omega)]; exact h)
    rw [h2] at h1
    grind
theorem D_same {n i j : Nat} {M : Mf} (hi : i < n) (hj : j < n) (hij : i ≠ j) (h : M i = M j) : D n M = 0 := by
  rcases Nat.lt_or_ge i j with h1 | h1
  · exact D_eq (j - (i + 1)) (i := i) (by omega) (by rw [show i + 1 + (j - (i + 1)) = j by omega]; exact h)
  · exact D_eq (i - (j + 1)) (i := j) (by omega) (by rw [show j + 1 + (i - (j + 1)) = i by omega]; exact h.symm)
/-! ## what turns as a determinant does -/
structure Alt (n : Nat) (F : Mf → Rat) : Prop where
  congr : ∀ M N : Mf, (∀ i, i < n → M i = N i) → F M = F N
  swap : ∀ (M : Mf) i j, i < n → j < n → i ≠ j → F (swp M i j) = - F M
  smul : ∀ (M : Mf) i (q : Rat), i < n → F (upd M i fun j => q * M i j) = q * F M
  acc : ∀ (M : Mf) i l (q : Rat), i < n → l < n → i ≠ l → F (upd M i fun j => M i j + q * M l j) = F M
theorem D_alt (n : Nat) : Alt n (D n) := by
  refine ⟨fun M N h => D_congr fun a b ha _ => by rw [h a ha], fun M i j hi hj hij => D_swap_of hi hj hij (fun N hN => D_same hi hj hij hN) M, fun M i q hi => ?_, fun M i l q hi hl hil => ?_⟩
  · rw [D_smul _ _ hi, upd_self1]
  · rw [D_add (M i) (fun j => q * M l j) hi, upd_self1, D_smul _ _ hi, D_same (M := upd M i (M l)) hi hl hil (by rw [upd_at, upd_off _ _ (Ne.symm hil)])]
    grind
/-- elim, as far as row i -/
def elp (S : Mf) (a k i : Nat) : Mf := fun x => if x = a then elim S a k a else if x < i then elim S a k x else S x
theorem elp_step {S : Mf} {a k i : Nat} (h : i ≠ a) : elp S a k (i + 1) = upd (elp S a k i) i (fun j => elp S a k i i j + (- S i k) * elp S a k i a j) := by
  funext x
  by_cases e : x = i
  · subst e
    rw [upd_at]
    unfold elp
    rw [if_neg h, if_pos (by omega), if_neg h, if_neg (by omega), if_pos rfl, elim_row h, elim_piv]
    funext j
    grind
  · rw [upd_off _ _ e]
    unfold elp
    by_cases e2 : x = a
    · rw [if_pos e2, if_pos e2]
    · rw [if_neg e2, if_neg e2]
      by_cases e3 : x < i
      · rw [if_pos e3, if_pos (by omega)]
      · rw [if_neg e3, if_neg (by omega)]
theorem elp_skip {S : Mf} {a k : Nat} : elp S a k (a + 1) = elp S a k a := by
  funext x
  unfold elp
  by_cases e2 : x = a
  · rw [if_pos e2, if_pos e2]
  · rw [if_neg e2, if_neg e2]
    by_cases e3 : x < a
    · rw [if_pos e3, if_pos (by omega)]
    · rw [if_neg e3, if_neg (by omega)]
theorem elp_zero {S : Mf} {a k : Nat} : elp S a k 0 = upd S a (fun j => (1 / S a k) * S a j) := by
  funext x
  by_cases e : x = a
  · subst e
    rw [upd_at]
    unfold elp
    rw [if_pos rfl, elim_piv]
    funext j
    grind
  · rw [upd_off _ _ e]
    unfold elp
    rw [if_neg e, if_neg (by omega)]
theorem elp_alt {n : Nat} {F : Mf → Rat} (hF : Alt n F) {S : Mf} {a k : Nat} (ha : a < n) : ∀ i, i ≤ n → F (elp S a k i) = (1 / S a k) * F S
  | 0, _ => by rw [elp_zero, hF.smul S a _ ha]
  | i + 1, h => by
    by_cases e : i = a
    · subst e; rw [elp_skip]; exact elp_alt hF ha i (by omega)
    · rw [elp_step e, hF.acc _ i a _ (by omega) ha e]
      exact elp_alt hF ha i (by omega)
theorem elim_alt {n : Nat} {F : Mf → Rat} (hF : Alt n F) {S : Mf} {a k : Nat} (ha : a < n) (hp : S a k ≠ 0) : F S = S a k * F (elim S a k) := by
  have h := elp_alt hF (S := S) (k := k) ha n (Nat.le_refl _)
  rw [hF.congr (elp S a k n) (elim S a k) fun i hi => by
    unfold elp
    by_cases e : i = a
    · rw [if_pos e, e]
    · rw [if_neg e, if_pos hi]] at h
  rw [h]
  grind
theorem low_alt {n : Nat} {F : Mf → Rat} (hF : Alt n F) {S : Mf} {k : Nat} (hk : k < n) : F (low S k) = F S := by
  have key : ∀ i, k + 1 + i ≤ n → F (fun x => if k < x ∧ x < k + 1 + i then low S k x else S x) = F S := by
    intro i
    induction i with
    | zero =>
      intro _
      refine hF.congr _ _ fun x hx => ?_
      rw [if_neg (by omega)]
    | succ i ih =>
      intro h
      rw [← ih (by omega), ← hF.acc (fun x => if k < x ∧ x < k + 1 + i then low S k x else S x) (k + 1 + i) k (- (S (k + 1 + i) k / S k k)) (by omega) hk (by omega)]
      refine hF.congr _ _ fun x hx => ?_
      by_cases e : x = k + 1 + i
      · subst e
        rw [upd_at, if_pos (by omega), if_neg (by omega), if_neg (by omega)]
        funext j
        unfold low
        rw [if_pos (by omega)]
        grind
      · rw [upd_off _ _ e]
        by_cases h2 : k < x ∧ x < k + 1 + i
        · rw [if_pos h2, if_pos (by omega)]
        · rw [if_neg h2, if_neg (by omega)]
  have h := key (n - (k + 1)) (by omega)
  rw [← h]
  refine hF.congr _ _ fun x hx => ?_
  by_cases h2 : k < x
  · rw [if_pos (by omega)]
  · rw [if_neg (by omega)]
    funext j
    unfold low
    rw [if_neg h2]
/-- by what the steps of the reduction divide -/
def gq (n : Nat) (M : Mf) : Nat → Rat
  | 0 => 1
  | k + 1 => if findR n (gj n M k).1 k (gj n M k).2.length < n then (if findR n (gj n M k).1 k (gj n M k).2.length = (gj n M k).2.length then gq n M k else - gq n M k) * swp (gj n M k).1 (gj n M k).2.length (findR n (gj n M k).1 k (gj n M k).2.length) (gj n M k).2.length k else gq n M k
theorem gj_alt {n : Nat} {F : Mf → Rat} (hF : Alt n F) {M : Mf} : ∀ k, F M = gq n M k * F (gj n M k).1 ∧ gq n M k ≠ 0
  | 0 => by
    refine ⟨?_, ?_⟩
    · unfold gq gj; grind
    · unfold gq; grind
  | k + 1 => by
    obtain ⟨ih, ih0⟩ := gj_alt hF (M := M) k
    rcases gj_step n M k with ⟨h, hz⟩ | ⟨r, h1, h2, h3, h4, h5, h6, h7⟩
    · have hr : ¬ findR n (gj n M k).1 k (gj n M k).2.length < n := by
        intro hlt
        obtain ⟨g1, g2, g3, g4⟩ := findR_spec (n := n) (M := (gj n M k).1) (k := k) (gj_len_le (n := n) (M := M) k).2
        exact g4 hlt (hz _ g1 hlt)
      rw [h]
      unfold gq
      rw [if_neg hr]
      exact ⟨ih, ih0⟩
    · have e := elim_alt hF (S := swp (gj n M k).1 (gj n M k).2.length r) (a := (gj n M k).2.length) (k := k) h3 h6
      rw [h5]
      unfold gq
      rw [h7, if_pos h2]
      by_cases e2 : r = (gj n M k).2.length
      · rw [if_pos e2]
        refine ⟨?_, by grind⟩
        rw [ih]
        rw [show F (gj n M k).1 = F (swp (gj n M k).1 (gj n M k).2.length r) by rw [e2, swp_self], e]
        grind
      · rw [if_neg e2]
        have e3 := hF.swap (gj n M k).1 (gj n M k).2.length r h3 h2 (Ne.symm e2)
        refine ⟨?_, by grind⟩
        rw [ih, show F (gj n M k).1 = - F (swp (gj n M k).1 (gj n M k).2.length r) by rw [e3]; grind, e]
        grind
theorem gj_len_step (n : Nat) (M : Mf) (k : Nat) : (gj n M k).2.length ≤ (gj n M (k + 1)).2.length ∧ (gj n M (k + 1)).2.length ≤ (gj n M k).2.length + 1 := by
  rcases gj_step n M k with ⟨h, _⟩ | ⟨r, _, _, _, _, h5, _, _⟩
  · rw [h]; omega
  · rw [h5]; simp
theorem gj_len_full {n : Nat} {M : Mf} {c : Nat} (h : (gj n M c).2.length = c) : ∀ {k}, k ≤ c → (gj n M k).2.length = k := by
  intro k hk
  induction c with
  | zero => have : k = 0 := by omega
            subst this; exact h
  | succ c ih =>
    rcases Nat.lt_or_ge k (c + 1) with h1 | h1
    · have := gj_len_step n M c
      have := (gj_len_le (n := n) (M := M) c).1
      exact ih (by omega) (by omega)
    · have : k = c + 1 := by omega
      subst this; exact h
theorem gj_full_pv {n : Nat} {M : Mf} : ∀ {c}, (gj n M c).2.length = c → ∀ t, t < c → pv (gj n M c).2 t = t
  | 0, _, t, ht => by omega
  | c + 1, h, t, ht => by
    have h0 := gj_len_full h (show c ≤ c + 1 by omega)
    rcases gj_step n M c with ⟨h1, _⟩ | ⟨r, _, _, _, _, h5, _, _⟩
    · rw [h1] at h; omega
    · rw [pv_at (by omega)]
      simp only [h5]
      by_cases e : t = c
      · subst e
        rw [List.getElem_concat_length (by rw [h0])]
      · rw [List.getElem_append_left (by omega), ← pv_at (by omega)]
        exact gj_full_pv h0 t (by omega)
theorem gj_full_one {n : Nat} {M : Mf} {c : Nat} (h : (gj n M c).2.length = c) {i j : Nat} (hj : j < c) : (gj n M c).1 i j = if i = j then 1 else 0 := by
  have := gj_unit (n := n) (M := M) (k := c) (t := j) (i := i) (by omega)
  rwa [gj_full_pv h j hj] at this
theorem D_one : ∀ {n} {M : Mf}, (∀ i j, i < n → j < n → M i j = if i = j then 1 else 0) → D n M = 1
  | 0, _, _ => rfl
  | n + 1, M, h => by
    rw [D_succ, sm_first fun i h1 h2 => by rw [h i 0 h2 (by omega), if_neg (by omega)]; grind]
    rw [h 0 0 (by omega) (by omega), if_pos rfl, D_one (n := n) (M := mnr 0 M) fun i j hi hj => by
      unfold mnr
      rw [if_neg (by omega), h _ _ (by omega) (by omega)]
      by_cases e : i = j
      · rw [if_pos (by omega), if_pos e]
      · rw [if_neg (by omega), if_neg e]]
    unfold sgn1
    rw [if_pos (by omega)]
    grind
theorem D_zero_row {n i : Nat} {M : Mf} (hi : i < n) (h : ∀ j, j < n → M i j = 0) : D n M = 0 := by
  have h1 := (D_alt n).smul M i 0 hi
  rw [D_congr (N := M) fun a b ha hb => by
    by_cases e : a = i
    · rw [e, upd_at, h b hb]; grind
    · rw [upd_off _ _ e]] at h1
  rw [h1]; grind
theorem D_reduced_full {n : Nat} {M : Mf} (h : (gj n M n).2.length = n) : D n M = gq n M n := by
  have h1 := (gj_alt (D_alt n) (M := M) n).1
  rw [D_one (M := (gj n M n).1) fun i j hi hj => gj_full_one h hj] at h1
  rw [h1]; grind
theorem D_reduced_less {n : Nat} {M : Mf} (h : (gj n M n).2.length < n) : D n M = 0 := by
  have h1 := (gj_alt (D_alt n) (M := M) n).1
  rw [D_zero_row (M := (gj n M n).1) (i := n - 1) (by omega) fun j hj => (gj_form n).2 (n - 1) j (by omega) (by omega) hj] at h1
  rw [h1]; grind
/-- a determinant is 0 exactly without full rank -/
theorem D_rank {n : Nat} {M : Mf} : D n M = 0 ↔ (gj n M n).2.length < n := by
  constructor
  · intro h
    rcases Nat.lt_or_ge (gj n M n).2.length n with h1 | h1
    · exact h1
    · have h2 : (gj n M n).2.length = n := by have := (gj_len_le (n := n) (M := M) n).1; omega
      rw [D_reduced_full h2] at h
      exact absurd h (gj_alt (D_alt n) (M := M) n).2
  · exact D_reduced_less
def mulF (M N : Mf) (l : Nat) : Mf := fun i k => dotS (M i) (fun j => N j k) l
theorem mul_alt (n : Nat) (N : Mf) : Alt n fun M => D n (mulF M N n) := by
  refine ⟨fun M M' h => D_congr fun a b ha _ => by unfold mulF; rw [h a ha], fun M i j hi hj hij => ?_, fun M i q hi => ?_, fun M i l q hi hl hil => ?_⟩
  · rw [← (D_alt n).swap (mulF M N n) i j hi hj hij]
    refine D_congr fun a b _ _ => ?_
    by_cases e : a = i
    · rw [e, swp_l]; unfold mulF; rw [swp_l]
    · by_cases e2 : a = j
      · rw [e2, swp_r]; unfold mulF; rw [swp_r]
      · rw [swp_o _ e e2]; unfold mulF; rw [swp_o _ e e2]
  · rw [← (D_alt n).smul (mulF M N n) i q hi]
    refine D_congr fun a b _ _ => ?_
    by_cases e : a = i
    · rw [e, upd_at]; unfold mulF; rw [upd_at, dotS_smul]
    · rw [upd_off _ _ e]; unfold mulF; rw [upd_off _ _ e]
  · rw [← (D_alt n).acc (mulF M N n) i l q hi hl hil]
    refine D_congr fun a b _ _ => ?_
    by_cases e : a = i
    · rw [e, upd_at]; unfold mulF; rw [upd_at, dotS_add, dotS_smul]
    · rw [upd_off _ _ e]; unfold mulF; rw [upd_off _ _ e]
/-- determinants of products are products -/
theorem D_mul {n : Nat} (M N : Mf) : D n (mulF M N n) = D n M * D n N := by
  have h1 := (gj_alt (mul_alt n N) (M := M) n).1
  by_cases h : (gj n M n).2.length = n
  · rw [D_reduced_full h, h1]
    congr 1
    refine D_congr fun a b ha hb => ?_
    unfold mulF
    rw [dotS_congr (x' := fun s => if s = a then 1 else 0) (y' := fun j => N j b) (fun k hk => by rw [gj_full_one h hk]; by_cases e : a = k <;> simp [e, eq_comm]) (fun _ _ => rfl), dotS_one, if_pos ha]
  · have h2 : (gj n M n).2.length < n := by have := (gj_len_le (n := n) (M := M) n).1; omega
    rw [D_reduced_less h2, h1]
    have : D n (mulF (gj n M n).1 N n) = 0 := D_zero_row (i := n - 1) (by omega) fun j hj => by
      unfold mulF
      exact dotS_zero fun k hk => by rw [(gj_form n).2 (n - 1) k (by omega) (by omega) hk]; grind
    rw [this]
    grind
/-! ## the program's determinant is this one -/
def pd (S : Mf) : Nat → Rat
  | 0 => 1
  | n + 1 => pd S n * S n n
theorem pd_congr {S T : Mf} : ∀ {n}, (∀ i, i < n → S i i = T i i) → pd S n = pd T n
  | 0, _ => rfl
  | n + 1, h => by unfold pd; rw [pd_congr fun i hi => h i (by omega), h n (by omega)]
theorem pd_shift (S : Mf) : ∀ n, pd S (n + 1) = S 0 0 * pd (fun i j => S (i + 1) (j + 1)) n
  | 0 => by unfold pd pd; grind
  | n + 1 => by
    have h := pd_shift S n
    show pd S (n + 1) * S (n + 1) (n + 1) = S 0 0 * (pd (fun i j => S (i + 1) (j + 1)) n * S (n + 1) (n + 1))
    rw [h]; grind
theorem mnr_zero (S : Mf) : mnr 0 S = fun i j => S (i + 1) (j + 1) := by funext a b; unfold mnr; rw [if_neg (by omega)]
theorem D_tri : ∀ {n} {S : Mf}, (∀ i j, j < i → i < n → S i j = 0) → D n S = pd S n
  | 0, _, _ => rfl
  | n + 1, S, h => by
    rw [D_succ, sm_first fun i h1 h2 => by rw [h i 0 h1 h2]; grind, pd_shift, mnr_zero, D_tri (n := n) fun i j h1 h2 => h _ _ (by omega) (by omega)]
    unfold sgn1
    rw [if_pos (by omega)]
    grind
theorem D_tri0 : ∀ {k n} {S : Mf}, k < n → (∀ i j, j < k → j < i → i < n → S i j = 0) → (∀ i, k ≤ i → i < n → S i k = 0) → D n S = 0
  | 0, n + 1, S, _, _, h2 => by
    rw [D_succ]
    exact sm_zero fun i hi => by rw [h2 i (by omega) hi]; grind
  | k + 1, n + 1, S, hk, h1, h2 => by
    rw [D_succ, sm_first fun i h3 h4 => by rw [h1 i 0 (by omega) h3 h4]; grind, mnr_zero, D_tri0 (k := k) (n := n) (S := fun i j => S (i + 1) (j + 1)) (by omega) (fun i j h3 h4 h5 => h1 _ _ (by omega) (by omega) (by omega)) (fun i h3 h4 => h2 _ (by omega) (by omega))]
    grind
theorem dts_inv {n : Nat} {M : Mf} : ∀ k, k ≤ n → (dts n M k = none → D n M = 0) ∧ ∀ S d, dts n M k = some (S, d) → ∃ s, D n M = s * D n S ∧ d = s * pd S k ∧ ∀ i j, j < k → j < i → i < n → S i j = 0
  | 0, _ => by
    refine ⟨(fun h => nomatch h), fun S d h => ?_⟩
    have h : some (M, (1 : Rat)) = some (S, d) := h
    injection h with h
    injection h with h3 h4
    subst h3 h4
    exact ⟨1, by grind, by unfold pd; grind, fun i j hj => by omega⟩
  | k + 1, hk => by
    obtain ⟨ih1, ih2⟩ := dts_inv (n := n) (M := M) k (by omega)
    cases e : dts n M k with
    | none =>
      have h := dts_none e (show k ≤ k + 1 by omega)
      exact ⟨fun _ => ih1 e, (fun S d h' => by rw [h] at h'; cases h')⟩
    | some sd =>
      obtain ⟨S, d⟩ := sd
      obtain ⟨s, h1, h2, h3⟩ := ih2 S d e
      obtain ⟨g1, g2, g3, g4⟩ := findR_spec (n := n) (M := S) (k := k) (a := k) (by omega)
      by_cases hr : findR n S k k < n
      · have hy := dts_yes e rfl hr
        have g5 := g4 hr
        generalize findR n S k k = r at *
        refine ⟨(fun h => by rw [hy] at h; cases h), fun S' d' h => ?_⟩
        rw [hy] at h
        injection h with h
        injection h with h4 h5
        subst h4 h5
        have hswp : ∀ i, i < k → swp S k r i = S i := fun i hi => swp_o S (by omega) (by omega)
        have hpd : pd (low (swp S k r) k) (k + 1) = pd S k * swp S k r k k := by
          show pd (low (swp S k r) k) k * low (swp S k r) k k k = _
          rw [pd_congr (T := S) fun i hi => by unfold low; rw [if_neg (by omega), hswp i hi]]
          unfold low
          rw [if_neg (by omega)]
        have hz : ∀ i j, j < k → k ≤ i → i < n → swp S k r i j = 0 := by
          intro i j hj hi hn
          by_cases e1 : i = k
          · rw [e1, swp_l]; exact h3 r j hj (by omega) hr
          · by_cases e2 : i = r
            · rw [e2, swp_r]; exact h3 k j hj hj (by omega)
            · rw [swp_o S e1 e2]; exact h3 i j hj (by omega) hn
        refine ⟨if r = k then s else -s, ?_, ?_, fun i j hj hji hn => ?_⟩
        · rw [low_alt (D_alt n) (show k < n by omega), h1]
          by_cases e1 : r = k
          · rw [if_pos e1, e1, swp_self]
          · rw [if_neg e1, (D_alt n).swap S k r (by omega) hr (Ne.symm e1)]; grind
        · rw [hpd, h2]
          by_cases e1 : r = k
          · rw [if_pos e1, if_pos e1]; grind
          · rw [if_neg e1, if_neg e1]; grind
        · unfold low
          have hp : swp S k r k k ≠ 0 := by rw [swp_l]; exact g5
          by_cases e1 : k < i
          · rw [if_pos e1]
            by_cases e2 : j = k
            · rw [e2]; grind
            · rw [hz i j (by omega) (by omega) hn, hz k j (by omega) (Nat.le_refl _) (by omega)]; grind
          · rw [if_neg e1]
            by_cases e2 : i = k
            · exact hz i j (by omega) (by omega) hn
            · rw [hswp i (by omega)]; exact h3 i j (by omega) hji hn
      · have hn0 : dts n M (k + 1) = none := by
          show (match dts n M k with | none => none | some (S, d) => _) = none
          rw [e]
          show (if findR n S k k < n then _ else none) = none
          rw [if_neg hr]
        refine ⟨fun _ => ?_, (fun S' d' h => by rw [hn0] at h; cases h)⟩
        rw [h1, D_tri0 (k := k) (by omega) h3 fun i hi hn => g3 i hi (by omega)]
        grind
theorem detF_D (n : Nat) (M : Mf) : detF n M = D n M := by
  obtain ⟨h1, h2⟩ := dts_inv (n := n) (M := M) n (Nat.le_refl _)
  cases e : dts n M n with
  | none => unfold detF; rw [e]; exact (h1 e).symm
  | some sd =>
    obtain ⟨S, d⟩ := sd
    obtain ⟨s, h3, h4, h5⟩ := h2 S d e
    rw [dts_end e, h3, h4, D_tri fun i j hj hi => h5 i j (by omega) hj hi]
/-! ## the reference's -/
def rdF (n : Nat) (M : Mf) : Nat → Rat
  | 0 => 1
  | k + 1 => if findR n (gj n M k).1 k (gj n M k).2.length < n then (if findR n (gj n M k).1 k (gj n M k).2.length = (gj n M k).2.length then rdF n M k else - rdF n M k) * swp (gj n M k).1 (gj n M k).2.length (findR n (gj n M k).1 k (gj n M k).2.length) (gj n M k).2.length k else 0
theorem rdF_eq {n : Nat} {M : Mf} : ∀ k, rdF n M k = if (gj n M k).2.length = k then gq n M k else 0
  | 0 => by unfold rdF gq; rw [if_pos (show (gj n M 0).2.length = 0 from rfl)]
  | k + 1 => by
    have ih := rdF_eq (n := n) (M := M) k
    have hl := (gj_len_le (n := n) (M := M) k).1
    rcases gj_step n M k with ⟨h, hz⟩ | ⟨r, h1, h2, h3, h4, h5, h6, h7⟩
    · have hr : ¬ findR n (gj n M k).1 k (gj n M k).2.length < n := by
        intro hlt
        obtain ⟨g1, g2, g3, g4⟩ := findR_spec (n := n) (M := (gj n M k).1) (k := k) (gj_len_le (n := n) (M := M) k).2
        exact g4 hlt (hz _ g1 hlt)
      rw [h]
      unfold rdF
      rw [if_neg hr, if_neg (by omega)]
    · have hlen : (gj n M (k + 1)).2.length = (gj n M k).2.length + 1 := by rw [h5]; simp
      rw [hlen]
      unfold rdF gq
      rw [h7, if_pos h2, if_pos h2, ih]
      by_cases e : (gj n M k).2.length = k
      · rw [if_pos e, if_pos (show (gj n M k).2.length + 1 = k + 1 by omega)]
      · rw [if_neg e, if_neg (show ¬ (gj n M k).2.length + 1 = k + 1 by omega)]
        split <;> grind
theorem rdF_detF (n : Nat) (M : Mf) : rdF n M n = detF n M := by
  rw [detF_D, rdF_eq]
  by_cases h : (gj n M n).2.length = n
  · rw [if_pos h, D_reduced_full h]
  · rw [if_neg h, D_reduced_less (by have := (gj_len_le (n := n) (M := M) n).1; omega)]
end Go.Proofs.YtnljncncnohncaaDoor
