/- Contracts of functions and lemmas, used by the proofs of the given statements. No condition beyond those that each lemma names. -/
import Derived.Test.YtnljncncnohncaaDoorLinX
import Derived.Test.YtnljncncnohncaaDoorJLinP
namespace Go.Proofs.YtnljncncnohncaaDoor
set_option linter.unusedSimpArgs false
set_option linter.unusedVariables false
/-! ## the reduced form of a matrix and one more column (plain) -/
theorem findF_congr {M N : Mf} {k : Nat} : ∀ {f a : Nat}, (∀ i, M i k = N i k) → findF M k f a = findF N k f a
  | 0, a, _ => rfl
  | f + 1, a, h => by unfold findF; rw [h a, findF_congr h]
theorem findR_congr {M N : Mf} {n k a : Nat} (h : ∀ i, M i k = N i k) : findR n M k a = findR n N k a := findF_congr h
theorem gj_cols {n c : Nat} {M N : Mf} (h : ∀ i j, j < c → M i j = N i j) : ∀ k, k ≤ c → (gj n M k).2 = (gj n N k).2 ∧ ∀ i j, j < c → (gj n M k).1 i j = (gj n N k).1 i j
  | 0, _ => ⟨rfl, h⟩
  | k + 1, hk => by
    obtain ⟨h1, h2⟩ := gj_cols h k (by omega)
    have hf : findR n (gj n M k).1 k (gj n M k).2.length = findR n (gj n N k).1 k (gj n N k).2.length := by rw [h1]; exact findR_congr fun i => h2 i k (by omega)
    rw [gj_succ, gj_succ]
    unfold gjS
    rw [hf, h1]
    split
    · refine ⟨rfl, fun i j hj => ?_⟩
      have hs : ∀ i j, j < c → swp (gj n M k).1 (gj n N k).2.length (findR n (gj n N k).1 k (gj n N k).2.length) i j = swp (gj n N k).1 (gj n N k).2.length (findR n (gj n N k).1 k (gj n N k).2.length) i j := by
        intro i j hj
        unfold swp
        split
        · exact h2 _ j hj
        · split
          · exact h2 _ j hj
          · exact h2 _ j hj
      show elim _ _ _ i j = elim _ _ _ i j
      unfold elim
      rw [hs _ j hj, hs _ k (by omega), hs i j hj, hs i k (by omega)]
    · exact ⟨h1, h2⟩
theorem gj_wide {n c : Nat} {M : Mf} {y : Nat → Rat} : (gj n (wide M y c) c).2 = (gj n M c).2 :=
  (gj_cols (c := c) (fun i j hj => by unfold wide; rw [if_pos hj]) c (Nat.le_refl _)).1
theorem gj_pre {n : Nat} {M : Mf} {k : Nat} : ∀ {c}, k ≤ c → ∃ t, (gj n M c).2 = (gj n M k).2 ++ t ∧ ∀ x ∈ t, k ≤ x
  | 0, h => ⟨[], by obtain rfl : k = 0 := by omega
                    simp, by simp⟩
  | c + 1, h => by
    by_cases e : k = c + 1
    · subst e; exact ⟨[], by simp, by simp⟩
    · obtain ⟨t, ht, hx⟩ := gj_pre (n := n) (M := M) (k := k) (c := c) (by omega)
      rcases gj_step n M c with ⟨h1, _⟩ | ⟨r, _, _, _, _, h5, _, _⟩
      · exact ⟨t, by rw [h1, ht], hx⟩
      · refine ⟨t ++ [c], by rw [h5]; show _ ++ _ = _; rw [ht, List.append_assoc], fun x hm => ?_⟩
        rcases List.mem_append.1 hm with h6 | h6
        · exact hx x h6
        · have := List.mem_singleton.1 h6; omega
theorem fre_count {n c : Nat} {M : Mf} : ∀ k, k ≤ c → (fre (gj n M c).2 k).length + (gj n M k).2.length = k
  | 0, _ => by show (fre (gj n M c).2 0).length + ([] : List Nat).length = 0; rfl
  | k + 1, h => by
    have ih := fre_count (n := n) (c := c) (M := M) k (by omega)
    obtain ⟨t, ht, hx⟩ := gj_pre (n := n) (M := M) (k := k + 1) (c := c) h
    rcases gj_step n M k with ⟨h1, _⟩ | ⟨r, _, _, _, _, h5, _, _⟩
    · have hk : k ∉ (gj n M c).2 := by
        rw [ht, h1, List.mem_append]
        rintro (h2 | h2)
        · have := gj_lt k _ h2; omega
        · have := hx _ h2; omega
      rw [fre_out hk, h1, List.length_append, List.length_singleton]
      omega
    · have hk : k ∈ (gj n M c).2 := by
        rw [ht, h5]
        simp
      rw [fre_in hk, h5]
      show _ + ((gj n M k).2 ++ [k]).length = _
      rw [List.length_append, List.length_singleton]
      omega
theorem kernel_count (n c : Nat) (M : Mf) : (fre (gj n M c).2 c).length + (gj n M c).2.length = c := fre_count c (Nat.le_refl _)
/-- the rank grows by one or stays -/
theorem wide_rank (n c : Nat) (M : Mf) (y : Nat → Rat) : ((gj n (wide M y c) (c + 1)).2 = (gj n M c).2 ++ [c] ∧ (gj n (wide M y c) (c + 1)).2.getLast? = some c) ∨ ((gj n (wide M y c) (c + 1)).2 = (gj n M c).2 ∧ (gj n (wide M y c) (c + 1)).2.getLast? ≠ some c) := by
  have hw := gj_wide (n := n) (M := M) (y := y) (c := c)
  rcases gj_step n (wide M y c) c with ⟨h1, _⟩ | ⟨r, _, _, _, _, h5, _, _⟩
  · refine .inr ⟨by rw [h1, hw], fun e => ?_⟩
    rw [h1, hw] at e
    have := gj_lt c _ (List.mem_of_getLast? e)
    omega
  · refine .inl ⟨by rw [h5]; show _ ++ _ = _; rw [hw], ?_⟩
    rw [h5]
    simp
theorem codeS_kinds (n c : Nat) (M : Mf) (y : Nat → Rat) :
    (codeS n c (wide M y c) = 17 ∧ (gj n (wide M y c) (c + 1)).2.length = (gj n M c).2.length + 1) ∨
    (codeS n c (wide M y c) = 16 ∧ (gj n (wide M y c) (c + 1)).2.length = (gj n M c).2.length ∧ 0 < (fre (gj n M c).2 c).length) ∨
    (codeS n c (wide M y c) = 0 ∧ (gj n (wide M y c) (c + 1)).2.length = (gj n M c).2.length ∧ (fre (gj n M c).2 c).length = 0 ∧ (gj n M c).2.length = c) := by
  have hk := kernel_count n c M
  rcases wide_rank n c M y with ⟨h1, h2⟩ | ⟨h1, h2⟩
  · exact .inl ⟨by unfold codeS; rw [if_pos h2], by rw [h1]; simp⟩
  · by_cases h3 : (gj n M c).2.length < c
    · exact .inr (.inl ⟨by unfold codeS; rw [if_neg h2, if_pos (by rw [h1]; exact h3)], by rw [h1], by omega⟩)
    · exact .inr (.inr ⟨by unfold codeS; rw [if_neg h2, if_neg (by rw [h1]; exact h3)], by rw [h1], by omega, by omega⟩)
/-- the solution solves -/
theorem solve_eq {n c : Nat} {M : Mf} {y : Nat → Rat} (h : (gj n (wide M y c) (c + 1)).2.length = (gj n M c).2.length) (hc : (gj n M c).2.length = c) : ∀ i, i < n → dotS (M i) (fun t => (gj n (wide M y c) (c + 1)).1 t c) c = y i := by
  intro i hi
  have h1 := gj_rows (n := n) (c := c + 1) (M := wide M y c) i hi c (by omega)
  have e : wide M y c i c = y i := by unfold wide; rw [if_neg (by omega)]
  have hp : (gj n (wide M y c) (c + 1)).2 = (gj n M c).2 := by
    rcases wide_rank n c M y with ⟨h2, _⟩ | ⟨h2, _⟩
    · rw [h2] at h; simp at h
    · exact h2
  rw [e, h, hc, hp] at h1
  rw [h1]
  refine dotS_congr (fun t ht => ?_) (fun _ _ => rfl)
  rw [gj_full_pv hc t ht]
  unfold wide
  rw [if_pos ht]
end Go.Proofs.YtnljncncnohncaaDoor
