/- Contracts of functions and lemmas, used by the proofs of the given statements. No condition beyond those that each lemma names. -/
import Derived.Test.YtomkdgcpmpbfhaaGreatDoorLinX
import Derived.Test.YtomkdgcpmpbfhaaGreatDoorJBase
import Derived.Test.YtomkdgcpmpbfhaaGreatDoorTrW3
import Derived.Test.YtomkdgcpmpbfhaaGreatDoorJOpenNum
import Derived.Test.YtomkdgcpmpbfhaaGreatDoorChX
import Derived.Test.YtomkdgcpmpbfhaaGreatDoorLinMk
namespace Go.Proofs.YtomkdgcpmpbfhaaGreatDoor
set_option linter.unusedSimpArgs false
set_option linter.unusedVariables false
/-! ## the reduced form of a matrix and one more column (plain) -/
theorem findF_congr {M N : Mf} {k : Nat} : ∀ {f a : Nat}, (∀ i, M i k = N i k) → findF M k f a = findF N k f a
  | 0, a, _ => rfl
  | f + 1, a, h => by unfold findF; rw [h a, findF_congr h]
theorem findR_congr {M N : Mf} {n k a : Nat} (h : ∀ i, M i k = N i k) : findR n M k a = findR n N k a := findF_congr h
theorem gj_cols {n c : Nat} {M N : Mf} (h : ∀ i j, j < c → M i j = N i j) : ∀ k, k ≤ c → (gj n M k).2 = (gj n N k).2 ∧ ∀ i j, j < c → (gj n M k).1 i j = (gj n N k).1 i j
  | 0, _ => ⟨rfl, h⟩
  | k + 1, hk => by
    obtain ⟨h1, h2⟩ := gj_cols h k (by omega)
    have hf : findR n (gj n M k).1 k (gj n M k).2.length = findR n (gj n N k).1 k (gj n N k).2.length := by rw [h1]; exact findR_congr fun i => h2 i k (by omega)
    rw [gj_succ, gj_succ]
    unfold gjS
    rw [hf, h1]
    split
    · refine ⟨rfl, fun i j hj => ?_⟩
      have hs : ∀ i j, j < c → swp (gj n M k).1 (gj n N k).2.length (findR n (gj n N k).1 k (gj n N k).2.length) i j = swp (gj n N k).1 (gj n N k).2.length (findR n (gj n N k).1 k (gj n N k).2.length) i j := by
        intro i j hj
        unfold swp
        split
        · exact h2 _ j hj
        · split
          · exact h2 _ j hj
          · exact h2 _ j hj
      show elim _ _ _ i j = elim _ _ _ i j
      unfold elim
      rw [hs _ j hj, hs _ k (by omega), hs i j hj, hs i k (by omega)]
    · exact ⟨h1, h2⟩
theorem gj_wide {n c : Nat} {M : Mf} {y : Nat → Rat} : (gj n (wide M y c) c).2 = (gj n M c).2 :=
  (gj_cols (c := c) (fun i j hj => by unfold wide; rw [if_pos hj]) c (Nat.le_refl _)).1
theorem gj_pre {n : Nat} {M : Mf} {k : Nat} : ∀ {c}, k ≤ c → ∃ t, (gj n M c).2 = (gj n M k).2 ++ t ∧ ∀ x ∈ t, k ≤ x
  | 0, h => ⟨[], by obtain rfl : k = 0 := by omega
                    simp, by simp⟩
  | c + 1, h => by
    by_cases e : k = c + 1
    · subst e; exact ⟨[], by simp, by simp⟩
    · obtain ⟨t, ht, hx⟩ := gj_pre (n := n) (M := M) (k := k) (c := c) (by omega)
      rcases gj_step n M c with ⟨h1, _⟩ | ⟨r, _, _, _, _, h5, _, _⟩
      · exact ⟨t, by rw [h1, ht], hx⟩
      · refine ⟨t ++ [c], by rw [h5]; show _ ++ _ = _; rw [ht, List.append_assoc], fun x hm => ?_⟩
        rcases List.mem_append.1 hm with h6 | h6
        · exact hx x h6
        · have := List.mem_singleton.1 h6; omega
theorem fre_count {n c : Nat} {M : Mf} : ∀ k, k ≤ c → (fre (gj n M c).2 k).length + (gj n M k).2.length = k
  | 0, _ => by show (fre (gj n M c).2 0).length + ([] : List Nat).length = 0; rfl
  | k + 1, h => by
    have ih := fre_count (n := n) (c := c) (M := M) k (by omega)
    obtain ⟨t, ht, hx⟩ := gj_pre (n := n) (M := M) (k := k + 1) (c := c) h
    rcases gj_step n M k with ⟨h1, _⟩ | ⟨r, _, _, _, _, h5, _, _⟩
    · have hk : k ∉ (gj n M c).2 := by
        rw [ht, h1, List.mem_append]
        rintro (h2 | h2)
        · have := gj_lt k _ h2; omega
        · have := hx _ h2; omega
      rw [fre_out hk, h1, List.length_append, List.length_singleton]
      omega
    · have hk : k ∈ (gj n M c).2 := by
        rw [ht, h5]
        simp
      rw [fre_in hk, h5]
      show _ + ((gj n M k).2 ++ [k]).length = _
      rw [List.length_append, List.length_singleton]
      omega
theorem kernel_count (n c : Nat) (M : Mf) : (fre (gj n M c).2 c).length + (gj n M c).2.length = c := fre_count c (Nat.le_refl _)
/-- the rank grows by one or stays -/
theorem wide_rank (n c : Nat) (M : Mf) (y : Nat → Rat) : ((gj n (wide M y c) (c + 1)).2 = (gj n M c).2 ++ [c] ∧ (gj n (wide M y c) (c + 1)).2.getLast? = some c) ∨ ((gj n (wide M y c) (c + 1)).2 = (gj n M c).2 ∧ (gj n (wide M y c) (c + 1)).2.getLast? ≠ some c) := by
  have hw := gj_wide (n := n) (M := M) (y := y) (c := c)
  rcases gj_step n (wide M y c) c with ⟨h1, _⟩ | ⟨r, _, _, _, _, h5, _, _⟩
  · refine .inr ⟨by rw [h1, hw], fun e => ?_⟩
    rw [h1, hw] at e
    have := gj_lt c _ (List.mem_of_getLast? e)
    omega
  · refine .inl ⟨by rw [h5]; show _ ++ _ = _; rw [hw], ?_⟩
    rw [h5]
    simp
/-- the solution solves -/
theorem solve_eq {n c : Nat} {M : Mf} {y : Nat → Rat} (h : (gj n (wide M y c) (c + 1)).2.length = (gj n M c).2.length) (hc : (gj n M c).2.length = c) : ∀ i, i < n → dotS (M i) (fun t => (gj n (wide M y c) (c + 1)).1 t c) c = y i := by
  intro i hi
  have h1 := gj_rows (n := n) (c := c + 1) (M := wide M y c) i hi c (by omega)
  have e : wide M y c i c = y i := by unfold wide; rw [if_neg (by omega)]
  have hp : (gj n (wide M y c) (c + 1)).2 = (gj n M c).2 := by
    rcases wide_rank n c M y with ⟨h2, _⟩ | ⟨h2, _⟩
    · rw [h2] at h; simp at h
    · exact h2
  rw [e, h, hc, hp] at h1
  rw [h1]
  refine dotS_congr (fun t ht => ?_) (fun _ _ => rfl)
  rw [gj_full_pv hc t ht]
  unfold wide
  rw [if_pos ht]
end Go.Proofs.YtomkdgcpmpbfhaaGreatDoor
namespace Go.Proofs.YtomkdgcpmpbfhaaGreatDoor
set_option linter.unusedSimpArgs false
set_option linter.unusedVariables false
/-! ## sums over moves (plain) -/
theorem sumN_add (f g : Nat → Rat) : ∀ n, sumN (fun k => f k + g k) n = sumN f n + sumN g n
  | 0 => by unfold sumN; grind
  | n + 1 => by rw [sumN, sumN, sumN, sumN_add f g n]; grind
theorem sumN_sub (f g : Nat → Rat) : ∀ n, sumN (fun k => f k - g k) n = sumN f n - sumN g n
  | 0 => by unfold sumN; grind
  | n + 1 => by rw [sumN, sumN, sumN, sumN_sub f g n]; grind
theorem sumN_smul (a : Rat) (f : Nat → Rat) : ∀ n, sumN (fun k => a * f k) n = a * sumN f n
  | 0 => by unfold sumN; grind
  | n + 1 => by rw [sumN, sumN, sumN_smul a f n]; grind
theorem sumN_nil {f : Nat → Rat} : ∀ {n}, (∀ k, k < n → f k = 0) → sumN f n = 0
  | 0, _ => rfl
  | n + 1, h => by rw [sumN, sumN_nil fun k hk => h k (by omega), h n (by omega)]; grind
theorem sumN_swap (a : Nat → Nat → Rat) (n : Nat) : ∀ m, sumN (fun j => sumN (fun k => a j k) m) n = sumN (fun k => sumN (fun j => a j k) n) m
  | 0 => by show sumN (fun _ => 0) n = 0; exact sumN_nil fun _ _ => rfl
  | m + 1 => by
    show sumN (fun j => sumN (fun k => a j k) m + a j m) n = _
    rw [sumN_add, sumN_swap a n m, sumN]
theorem sumN_pick {f : Nat → Rat} {a : Nat} : ∀ {n}, sumN (fun j => if j = a then f j else 0) n = if a < n then f a else 0
  | 0 => by simp [sumN]
  | n + 1 => by
    rw [sumN, sumN_pick]
    by_cases e : n = a
    · subst e
      rw [if_neg (by omega), if_pos rfl, if_pos (by omega)]; grind
    · rw [if_neg e]
      by_cases h : a < n
      · rw [if_pos h, if_pos (by omega)]; grind
      · rw [if_neg h, if_neg (by omega)]; grind
theorem sumN_le0 {f : Nat → Rat} : ∀ {n}, (∀ k, k < n → f k ≤ 0) → sumN f n ≤ 0
  | 0, _ => Rat.le_refl
  | n + 1, h => by
    have ih := sumN_le0 (f := f) (n := n) fun k hk => h k (by omega)
    have h1 := h n (by omega)
    rw [sumN]
    clear h
    grind
theorem sumN_ge0 {f : Nat → Rat} : ∀ {n}, (∀ k, k < n → 0 ≤ f k) → 0 ≤ sumN f n
  | 0, _ => Rat.le_refl
  | n + 1, h => by
    have ih := sumN_ge0 (f := f) (n := n) fun k hk => h k (by omega)
    have := h n (by omega)
    rw [sumN]; grind
theorem sumN_eq0 {f : Nat → Rat} : ∀ {n}, (∀ k, k < n → f k ≤ 0) → 0 ≤ sumN f n → ∀ k, k < n → f k = 0
  | n + 1, h, h0, k, hk => by
    have ih := sumN_le0 (f := f) (n := n) fun k hk => h k (by omega)
    have := h n (by omega)
    rw [sumN] at h0
    by_cases e : k = n
    · subst e; grind
    · have h2 : 0 ≤ sumN f n := by grind
      exact sumN_eq0 (n := n) (fun k hk => h k (by omega)) h2 k (by omega)
theorem exists_min (x : Nat → Rat) : ∀ n, 0 < n → ∃ i, i < n ∧ ∀ j, j < n → x i ≤ x j
  | n + 1, _ => by
    by_cases hn : n = 0
    · subst hn
      exact ⟨0, by omega, fun j hj => by rw [show j = 0 by omega]; exact Rat.le_refl⟩
    · obtain ⟨i, hi, h⟩ := exists_min x n (by omega)
      by_cases hx : x i ≤ x n
      · refine ⟨i, by omega, fun j hj => ?_⟩
        by_cases e : j = n
        · rw [e]; exact hx
        · exact h j (by omega)
      · refine ⟨n, by omega, fun j hj => ?_⟩
        by_cases e : j = n
        · rw [e]; exact Rat.le_refl
        · have := h j (by omega)
          grind
theorem dotS_bump {f g z : Nat → Rat} {a : Nat} {x : Rat} (e : ∀ j, g j = f j + if j = a then x else 0) : ∀ {n}, dotS g z n = dotS f z n + if a < n then x * z a else 0
  | 0 => by unfold dotS; simp; grind
  | n + 1 => by
    rw [dotS, dotS, dotS_bump e, e n]
    by_cases h : n = a
    · subst h
      rw [if_neg (by omega), if_pos rfl, if_pos (by omega)]; grind
    · rw [if_neg h]
      by_cases h : a < n
      · rw [if_pos h, if_pos (by omega)]; grind
      · rw [if_neg h, if_neg (by omega)]; grind
/-! ## the system of the live states -/
section
variable (l : Nat → Bool) (F T : Nat → Nat) (q : Nat → Rat) (back : Bool)
/-- what a move adds to the equation of a state -/
def eqT (z : Nat → Rat) (i k : Nat) : Rat :=
  (if l (F k) = true ∧ i = F k then q k * z (F k) else 0) - (if (l (F k) = true ∧ l (T k) = true) ∧ i = (if back then T k else F k) then q k * z (if back then F k else T k) else 0)
/-- the left side of the equation of a state -/
def eqS (nm : Nat) (z : Nat → Rat) (i : Nat) : Rat := sumN (eqT l F T q back z i) nm
/-- the matrix after k moves -/
def sysK : Nat → Mf
  | 0 => fun _ _ => 0
  | k + 1 => fun i j => sysK k i j + (if l (F k) = true ∧ i = F k ∧ j = F k then q k else 0) - (if (l (F k) = true ∧ l (T k) = true) ∧ i = (if back then T k else F k) ∧ j = (if back then F k else T k) then q k else 0)
end
structure AbS (nm n : Nat) (F T : Nat → Nat) (q : Nat → Rat) (D l : Nat → Bool) : Prop where
  mv : ∀ k, k < nm → F k < n ∧ T k < n ∧ F k ≠ T k ∧ 0 < q k
  ln : ∀ s, l s = true → s < n
  ld : ∀ s, l s = true → D s = false
  lc : ∀ k, k < nm → l (F k) = true → D (T k) = false → l (T k) = true
  le : ∀ P : Nat → Prop, (∀ s, s < n → D s = true → P s) → (∀ k, k < nm → P (T k) → P (F k)) → ∀ s, l s = true → P s
section
variable {l D : Nat → Bool} {F T : Nat → Nat} {q : Nat → Rat} {back : Bool} {nm n i : Nat} {z y : Nat → Rat}
theorem dot_sys (hF : ∀ k, k < nm → F k < n ∧ T k < n) : ∀ {k}, k ≤ nm → dotS (sysK l F T q back k i) z n = sumN (eqT l F T q back z i) k
  | 0, _ => by
    show dotS (fun _ => 0) z n = 0
    exact dotS_zero fun k _ => by grind
  | k + 1, hk => by
    have ih := dot_sys hF (k := k) (by omega)
    obtain ⟨h1, h2⟩ := hF k (by omega)
    have hb : (if back then F k else T k) < n := by cases back <;> simp <;> assumption
    rw [sumN, ← ih, dotS_bump (f := fun j => sysK l F T q back k i j + if l (F k) = true ∧ i = F k ∧ j = F k then q k else 0) (a := if back then F k else T k) (x := - if (l (F k) = true ∧ l (T k) = true) ∧ i = (if back then T k else F k) then q k else 0) ?_, if_pos hb,
      dotS_bump (f := sysK l F T q back k i) (a := F k) (x := if l (F k) = true ∧ i = F k then q k else 0) ?_, if_pos h1]
    · unfold eqT
      split <;> split <;> grind
    · intro j
      by_cases e : j = F k
      · subst e
        by_cases e2 : l (F k) = true ∧ i = F k
        · rw [if_pos ⟨e2.1, e2.2, rfl⟩, if_pos rfl, if_pos e2]
        · rw [if_neg (fun h => e2 ⟨h.1, h.2.1⟩), if_pos rfl, if_neg e2]
      · rw [if_neg (fun h => e h.2.2), if_neg e]
    · intro j
      show _ - _ = _
      by_cases e : j = (if back then F k else T k)
      · by_cases e2 : (l (F k) = true ∧ l (T k) = true) ∧ i = (if back then T k else F k)
        · rw [if_pos e, if_pos e2, if_pos (show (l (F k) = true ∧ l (T k) = true) ∧ i = (if back then T k else F k) ∧ j = (if back then F k else T k) from ⟨e2.1, e2.2, e⟩)]; grind
        · rw [if_pos e, if_neg e2, if_neg (show ¬ ((l (F k) = true ∧ l (T k) = true) ∧ i = (if back then T k else F k) ∧ j = (if back then F k else T k)) from fun h => e2 ⟨h.1, h.2.1⟩)]; grind
      · rw [if_neg e, if_neg (show ¬ ((l (F k) = true ∧ l (T k) = true) ∧ i = (if back then T k else F k) ∧ j = (if back then F k else T k)) from fun h => e h.2.2)]; grind
theorem eqT_congr {k : Nat} (h : ∀ s, l s = true → z s = y s) : eqT l F T q back z i k = eqT l F T q back y i k := by
  unfold eqT
  have h1 : (if l (F k) = true ∧ i = F k then q k * z (F k) else 0) = if l (F k) = true ∧ i = F k then q k * y (F k) else 0 := by
    split
    · rename_i e; rw [h _ e.1]
    · rfl
  have h2 : (if (l (F k) = true ∧ l (T k) = true) ∧ i = (if back then T k else F k) then q k * z (if back then F k else T k) else 0) = if (l (F k) = true ∧ l (T k) = true) ∧ i = (if back then T k else F k) then q k * y (if back then F k else T k) else 0 := by
    by_cases e : (l (F k) = true ∧ l (T k) = true) ∧ i = (if back then T k else F k)
    · have hb : l (if back then F k else T k) = true := by
        by_cases hb : back = true
        · rw [if_pos hb]; exact e.1.1
        · rw [if_neg hb]; exact e.1.2
      rw [if_pos e, if_pos e, h _ hb]
    · rw [if_neg e, if_neg e]
  rw [h1, h2]
theorem eqS_congr (h : ∀ s, l s = true → z s = y s) : eqS l F T q back nm z i = eqS l F T q back nm y i := sumN_congr fun k _ => eqT_congr h
theorem eqT_lin {k : Nat} (a : Rat) : eqT l F T q back (fun s => z s + a * y s) i k = eqT l F T q back z i k + a * eqT l F T q back y i k := by
  unfold eqT
  split <;> split <;> grind
theorem eqS_lin (a : Rat) : eqS l F T q back nm (fun s => z s + a * y s) i = eqS l F T q back nm z i + a * eqS l F T q back nm y i := by
  unfold eqS
  rw [← sumN_smul, ← sumN_add]
  exact sumN_congr fun k _ => eqT_lin a
theorem AbS.times_nonneg (h : AbS nm n F T q D l) (hz : ∀ s, l s = false → z s = 0) (he : ∀ i, l i = true → 0 ≤ eqS l F T q false nm z i) : ∀ s, 0 ≤ z s := by
  intro s0
  apply Classical.byContradiction
  intro h0
  have hs0 : l s0 = true := by
    cases e : l s0
    · exact absurd (by rw [hz _ e]; exact Rat.le_refl) h0
    · rfl
  have hn0 := h.ln _ hs0
  obtain ⟨i, hi, hm⟩ := exists_min z n (by omega)
  have hneg : z i < 0 := by
    have := hm s0 hn0
    grind
  have live : ∀ s, z s = z i → l s = true := fun s e => by
    cases e2 : l s
    · have := hz _ e2; grind
    · rfl
  refine h.le (fun s => z s ≠ z i) (fun s hs hd e => ?_) (fun k hk hT hF => ?_) i (live i rfl) rfl
  · have := h.ld _ (live s e)
    rw [hd] at this
    cases this
  · have hl := live _ hF
    have hq := (h.mv k hk).2.2.2
    have hz0 := he _ hl
    have hle : ∀ j, j < nm → eqT l F T q false z (F k) j ≤ 0 := by
      intro j hj
      obtain ⟨m1, m2, m3, m4⟩ := h.mv j hj
      unfold eqT
      simp only [Bool.false_eq_true, if_false]
      by_cases e : F k = F j
      · rw [if_pos ⟨by rw [← e]; exact hl, e⟩]
        rw [e] at hF
        rw [hF]
        have h1 : q j * z i ≤ 0 := by
          have := Rat.mul_nonneg (Rat.le_of_lt m4) (show 0 ≤ -z i by grind)
          grind
        split
        · have h2 := hm _ m2
          have := Rat.mul_nonneg (Rat.le_of_lt m4) (show 0 ≤ z (T j) - z i by grind)
          grind
        · grind
      · rw [if_neg (fun h => e h.2), if_neg (fun h => e h.2)]
        grind
    have hk0 := sumN_eq0 hle hz0 k hk
    unfold eqT at hk0
    simp only [Bool.false_eq_true, if_false] at hk0
    rw [if_pos ⟨hl, trivial⟩, hF] at hk0
    split at hk0
    · have : q k * (z i - z (T k)) = 0 := by grind
      rcases Rat.mul_eq_zero.1 this with h1 | h1
      · grind
      · exact hT (by grind)
    · have : q k * z i = 0 := by grind
      rcases Rat.mul_eq_zero.1 this with h1 | h1 <;> grind
theorem AbS.visits_nonneg (h : AbS nm n F T q D l) (hz : ∀ s, l s = false → z s = 0) (he : ∀ i, l i = true → 0 ≤ eqS l F T q true nm z i) : ∀ s, 0 ≤ z s := by
  let N : Nat → Prop := fun s => l s = true ∧ z s < 0
  have hsum : sumN (fun k => (if N (F k) then q k * z (F k) else 0) - (if l (F k) = true ∧ N (T k) then q k * z (F k) else 0)) nm = sumN (fun j => if N j then eqS l F T q true nm z j else 0) n := by
    have e1 : sumN (fun j => if N j then eqS l F T q true nm z j else 0) n = sumN (fun j => sumN (fun k => if N j then eqT l F T q true z j k else 0) nm) n := by
      refine sumN_congr fun j _ => ?_
      split
      · rfl
      · exact (sumN_nil fun _ _ => rfl).symm
    rw [e1, sumN_swap]
    refine sumN_congr fun k hk => ?_
    obtain ⟨m1, m2, m3, m4⟩ := h.mv k hk
    have e2 : ∀ j, (if N j then eqT l F T q true z j k else 0) = (if j = F k then (if N j then q k * z (F k) else 0) else 0) - (if j = T k then (if l (F k) = true ∧ N j then q k * z (F k) else 0) else 0) := by
      intro j
      unfold eqT
      simp only [if_true]
      by_cases hN : N j
      · by_cases e : j = F k
        · have e3 : ¬ j = T k := fun h => m3 (e.symm.trans h)
          rw [if_pos hN, if_pos hN, if_pos e, if_neg e3, if_pos (show l (F k) = true ∧ j = F k from ⟨e ▸ hN.1, e⟩), if_neg (show ¬ ((l (F k) = true ∧ l (T k) = true) ∧ j = T k) from fun h => e3 h.2)]
        · rw [if_pos hN, if_neg e, if_neg (show ¬ (l (F k) = true ∧ j = F k) from fun h => e h.2)]
          by_cases e3 : j = T k
          · by_cases e4 : l (F k) = true
            · rw [if_pos e3, if_pos (show (l (F k) = true ∧ l (T k) = true) ∧ j = T k from ⟨⟨e4, e3 ▸ hN.1⟩, e3⟩), if_pos (show l (F k) = true ∧ N j from ⟨e4, hN⟩)]
            · rw [if_pos e3, if_neg (show ¬ ((l (F k) = true ∧ l (T k) = true) ∧ j = T k) from fun h => e4 h.1.1), if_neg (show ¬ (l (F k) = true ∧ N j) from fun h => e4 h.1)]
          · rw [if_neg e3, if_neg (show ¬ ((l (F k) = true ∧ l (T k) = true) ∧ j = T k) from fun h => e3 h.2)]
      · have h1 : (if j = F k then (if N j then q k * z (F k) else 0) else 0) = (0 : Rat) := by rw [if_neg hN]; split <;> rfl
        have h2 : (if j = T k then (if l (F k) = true ∧ N j then q k * z (F k) else 0) else 0) = (0 : Rat) := by rw [if_neg (show ¬ (l (F k) = true ∧ N j) from fun h => hN h.2)]; split <;> rfl
        rw [if_neg hN, h1, h2]
        grind
    rw [sumN_congr fun j _ => e2 j, sumN_sub, sumN_pick, sumN_pick, if_pos m1, if_pos m2]
  have hge : 0 ≤ sumN (fun j => if N j then eqS l F T q true nm z j else 0) n := sumN_ge0 fun j _ => by
    show 0 ≤ if N j then _ else _
    split
    · rename_i hN; exact he j hN.1
    · exact Rat.le_refl
  rw [← hsum] at hge
  have hle : ∀ k, k < nm → ((if N (F k) then q k * z (F k) else 0) - (if l (F k) = true ∧ N (T k) then q k * z (F k) else 0)) ≤ 0 := by
    intro k hk
    obtain ⟨m1, m2, m3, m4⟩ := h.mv k hk
    by_cases hN : N (F k)
    · have : 0 ≤ q k * -z (F k) := Rat.mul_nonneg (Rat.le_of_lt m4) (by have := hN.2; grind)
      rw [if_pos hN]
      split <;> grind
    · rw [if_neg hN]
      split
      · rename_i e
        have h1 : 0 ≤ z (F k) := by
          apply Classical.byContradiction
          intro h2
          exact hN ⟨e.1, by grind⟩
        have := Rat.mul_nonneg (Rat.le_of_lt m4) h1
        grind
      · grind
  have hzero := sumN_eq0 hle hge
  have hno : ∀ s, l s = true → ¬ N s := h.le (fun s => ¬ N s) (fun s hs hd hN => by
      have := h.ld s hN.1
      rw [hd] at this; cases this) (fun k hk hT hF => by
      have h1 := hzero k hk
      obtain ⟨m1, m2, m3, m4⟩ := h.mv k hk
      rw [if_pos hF, if_neg (fun h => hT h.2)] at h1
      have h2 : q k * z (F k) = 0 := by grind
      have h3 := hF.2
      rcases Rat.mul_eq_zero.1 h2 with h4 | h4 <;> grind)
  intro s
  cases e : l s
  · rw [hz s e]; exact Rat.le_refl
  · apply Classical.byContradiction
    intro h0
    exact hno s e ⟨e, by grind⟩
theorem AbS.nonneg (h : AbS nm n F T q D l) (hz : ∀ s, l s = false → z s = 0) (he : ∀ i, l i = true → 0 ≤ eqS l F T q back nm z i) : ∀ s, 0 ≤ z s := by
  cases back
  · exact h.times_nonneg hz he
  · exact h.visits_nonneg hz he
/-- no two solutions -/
theorem AbS.unique (h : AbS nm n F T q D l) (hz : ∀ s, l s = false → z s = y s) (he : ∀ i, l i = true → eqS l F T q back nm z i = eqS l F T q back nm y i) : ∀ s, z s = y s := by
  have h1 := h.nonneg (back := back) (z := fun s => z s + (-1) * y s) (fun s hs => by have := hz s hs; grind) (fun i hi => by have := he i hi; rw [eqS_lin]; grind)
  have h2 := h.nonneg (back := back) (z := fun s => y s + (-1) * z s) (fun s hs => by have := hz s hs; grind) (fun i hi => by have := he i hi; rw [eqS_lin]; grind)
  intro s
  have h3 := h1 s
  have h4 := h2 s
  grind
end
/-! ## full rank -/
theorem rank_full {n c : Nat} {M : Mf} (h : ∀ x : Nat → Rat, (∀ i, i < n → dotS (M i) x c = 0) → ∀ j, j < c → x j = 0) : (gj n M c).2.length = c := by
  apply Classical.byContradiction
  intro hne
  have h1 := kernel_count n c M
  have h2 : 0 < (fre (gj n M c).2 c).length := by
    have := (gj_len_le (n := n) (M := M) c).1
    omega
  obtain ⟨k, hk⟩ : ∃ k, k ∈ fre (gj n M c).2 c := ⟨_, List.getElem_mem h2⟩
  obtain ⟨hk1, hk2⟩ := fre_mem.1 hk
  have h3 := h _ (fun i hi => kx_zero hk1 hk2 i hi) k hk1
  rw [kx_own hk2 _ (Nat.le_refl _)] at h3
  exact absurd h3 (by decide)
/-- a square matrix of full rank: there is a solution, and it is one -/
theorem solve_full {n : Nat} {M : Mf} {y : Nat → Rat} (h : (gj n M n).2.length = n) : codeS n n (wide M y n) = 0 ∧ ∀ i, i < n → dotS (M i) (fun t => (gj n (wide M y n) (n + 1)).1 t n) n = y i := by
  have hw : (gj n (wide M y n) (n + 1)).2 = (gj n M n).2 ∧ (gj n (wide M y n) (n + 1)).2.getLast? ≠ some n := by
    rcases wide_rank n n M y with ⟨h1, h2⟩ | h1
    · have := (gj_len_le (n := n) (M := wide M y n) (n + 1)).2
      rw [h1, List.length_append] at this
      simp at this
      omega
    · exact h1
  exact ⟨codeS_0 hw.2 (by rw [hw.1]; omega), solve_eq (by rw [hw.1]) h⟩
end Go.Proofs.YtomkdgcpmpbfhaaGreatDoor
namespace Go.Proofs.YtomkdgcpmpbfhaaGreatDoor
set_option linter.unusedSimpArgs false
set_option linter.unusedVariables false
/-! ## the solution, by the whole matrix and by the live states alone (plain) -/
theorem cntB_ix {B : Nat → Bool} {t : Nat} : ∀ {n : Nat}, t < cntB B n → cntB B (ixB B n t) = t
  | 0, h => by unfold cntB kept at h; simp at h
  | n + 1, h => by
    cases hb : B n
    · rw [cntB_no hb] at h
      rw [ixB_stay (B := B) (i := t) (n := n + 1) (k := n) (by omega) h]
      exact cntB_ix h
    · rw [cntB_yes hb] at h
      by_cases e : t = cntB B n
      · subst e
        rw [ixB_new (by omega) hb]
      · rw [ixB_stay (B := B) (i := t) (n := n + 1) (k := n) (by omega) (by omega)]
        exact cntB_ix (by omega)
theorem ixB_cnt {B : Nat → Bool} {s n : Nat} (hs : s < n) (h : B s = true) : cntB B s < cntB B n ∧ ixB B n (cntB B s) = s := by
  refine ⟨?_, ixB_new hs h⟩
  have := cntB_mono (B := B) (k := s + 1) (n := n) (by omega)
  rw [cntB_yes h] at this
  omega
/-- a list over the live states as one over all -/
def extB (l : Nat → Bool) (x : Nat → Rat) : Nat → Rat := fun s => if l s then x (cntB l s) else 0
def fullA (l : Nat → Bool) (M : Mf) : Mf := fun i j => if l i then M i j else if j = i then 1 else 0
def onL (l : Nat → Bool) (b : Nat → Rat) : Nat → Rat := fun i => if l i then b i else 0
theorem dotS_kept {l : Nat → Bool} {f x : Nat → Rat} {n : Nat} : ∀ {k}, k ≤ n → dotS (fun t => f (ixB l n t)) x (cntB l k) = dotS f (extB l x) k
  | 0, _ => rfl
  | k + 1, hk => by
    have ih := dotS_kept (l := l) (f := f) (x := x) (n := n) (k := k) (by omega)
    cases hb : l k
    · rw [cntB_no hb, dotS, ih]
      unfold extB
      simp [hb]
      grind
    · rw [cntB_yes hb, dotS, dotS, ih, ixB_new (by omega) hb]
      unfold extB
      simp [hb]
section
variable {l D : Nat → Bool} {F T : Nat → Nat} {q : Nat → Rat} {nm n i : Nat} {z y : Nat → Rat} (back : Bool)
theorem eqS_zero : eqS l F T q back nm (fun _ => 0) i = 0 := sumN_nil fun k _ => by
  unfold eqT
  split <;> split <;> grind
/-- the solution -/
def solB (l : Nat → Bool) (F T : Nat → Nat) (q : Nat → Rat) (nm n : Nat) (b : Nat → Rat) : Nat → Rat := fun s => (gj n (wide (fullA l (sysK l F T q back nm)) (onL l b) n) (n + 1)).1 s n
theorem AbS.full_rank (h : AbS nm n F T q D l) : (gj n (fullA l (sysK l F T q back nm)) n).2.length = n := by
  refine rank_full fun x hx => ?_
  have hF : ∀ k, k < nm → F k < n ∧ T k < n := fun k hk => ⟨(h.mv k hk).1, (h.mv k hk).2.1⟩
  have h0 : ∀ s, (if l s then x s else 0) = (0 : Rat) := h.unique (back := back) (z := fun s => if l s then x s else 0) (y := fun _ => 0) (fun s hs => by simp [hs]) fun i hi => by
    have h1 := hx i (h.ln i hi)
    have e : fullA l (sysK l F T q back nm) i = sysK l F T q back nm i := by funext j; unfold fullA; rw [if_pos hi]
    rw [e, dot_sys hF (Nat.le_refl _)] at h1
    rw [eqS_zero, ← h1]
    exact eqS_congr fun s hs => by simp [hs]
  intro j hj
  cases hl : l j
  · have h1 := hx j hj
    have e : fullA l (sysK l F T q back nm) j = fun s => if s = j then 1 else 0 := by funext s; unfold fullA; rw [hl]; simp
    rw [e, dotS_one, if_pos hj] at h1
    exact h1
  · have := h0 j
    simpa [hl] using this
theorem AbS.full (h : AbS nm n F T q D l) (b : Nat → Rat) : codeS n n (wide (fullA l (sysK l F T q back nm)) (onL l b) n) = 0 ∧ (∀ s, s < n → l s = false → solB back l F T q nm n b s = 0) ∧ ∀ s, l s = true → eqS l F T q back nm (solB back l F T q nm n b) s = b s := by
  obtain ⟨h1, h2⟩ := solve_full (y := onL l b) (h.full_rank back)
  have hF : ∀ k, k < nm → F k < n ∧ T k < n := fun k hk => ⟨(h.mv k hk).1, (h.mv k hk).2.1⟩
  refine ⟨h1, fun s hs hl => ?_, fun s hl => ?_⟩
  · have := h2 s hs
    have e : fullA l (sysK l F T q back nm) s = fun j => if j = s then 1 else 0 := by funext j; unfold fullA; rw [hl]; simp
    rw [e, dotS_one, if_pos hs] at this
    unfold solB
    rw [this]
    unfold onL; rw [hl]; simp
  · have := h2 s (h.ln s hl)
    have e : fullA l (sysK l F T q back nm) s = sysK l F T q back nm s := by funext j; unfold fullA; rw [if_pos hl]
    rw [e, dot_sys hF (Nat.le_refl _)] at this
    have e2 : onL l b s = b s := by unfold onL; rw [if_pos hl]
    rw [e2] at this
    exact this
/-- whoever solves the equations has it -/
theorem AbS.sol_eq (h : AbS nm n F T q D l) {b : Nat → Rat} (hz : ∀ s, s < n → l s = false → z s = 0) (he : ∀ i, l i = true → eqS l F T q back nm z i = b i) : ∀ s, s < n → z s = solB back l F T q nm n b s := by
  obtain ⟨-, h2, h3⟩ := h.full back b
  have := h.unique (back := back) (z := fun s => if l s then z s else 0) (y := fun s => if l s then solB back l F T q nm n b s else 0) (fun s hs => by simp [hs]) fun i hi => by
    have e1 : eqS l F T q back nm (fun s => if l s then z s else 0) i = eqS l F T q back nm z i := eqS_congr fun s hs => by simp [hs]
    have e2 : eqS l F T q back nm (fun s => if l s then solB back l F T q nm n b s else 0) i = eqS l F T q back nm (solB back l F T q nm n b) i := eqS_congr fun s hs => by simp [hs]
    rw [e1, e2, he i hi, h3 i hi]
  intro s hs
  cases hl : l s
  · rw [hz s hs hl, h2 s hs hl]
  · have h4 := this s
    simpa [hl] using h4
theorem AbS.part_rank (h : AbS nm n F T q D l) : (gj (cntB l n) (fun k t => sysK l F T q back nm (ixB l n k) (ixB l n t)) (cntB l n)).2.length = cntB l n := by
  refine rank_full fun x hx => ?_
  have hF : ∀ k, k < nm → F k < n ∧ T k < n := fun k hk => ⟨(h.mv k hk).1, (h.mv k hk).2.1⟩
  have h0 : ∀ s, extB l x s = 0 := h.unique (back := back) (y := fun _ => 0) (fun s hs => by unfold extB; simp [hs]) fun i hi => by
    obtain ⟨h1, h2⟩ := ixB_cnt (h.ln i hi) hi
    have h3 := hx _ h1
    rw [dotS_kept (Nat.le_refl _), h2, dot_sys hF (Nat.le_refl _)] at h3
    rw [eqS_zero]
    exact h3
  intro j hj
  obtain ⟨h1, h2⟩ := ixB_lt hj
  have := h0 (ixB l n j)
  unfold extB at this
  rw [h2, cntB_ix hj] at this
  simpa using this
end
end Go.Proofs.YtomkdgcpmpbfhaaGreatDoor
namespace Go.Proofs.YtomkdgcpmpbfhaaGreatDoor
set_option linter.unusedSimpArgs false
set_option linter.unusedVariables false
/-! ## what times, visits and ends satisfy (plain) -/
/-- the probabilities of the ends, after k moves -/
def endK (B : Nat → Bool) (T : Nat → Nat) (x : Nat → Rat) (e0 : Nat → Rat) : Nat → Nat → Rat
  | 0 => e0
  | k + 1 => if B k then upd (endK B T x e0 k) (T k) (endK B T x e0 k (T k) + x k) else endK B T x e0 k
theorem endK_form {B : Nat → Bool} {T : Nat → Nat} {x e0 : Nat → Rat} {s : Nat} : ∀ k, endK B T x e0 k s = e0 s + sumN (fun k => if B k = true ∧ T k = s then x k else 0) k
  | 0 => by unfold endK sumN; grind
  | k + 1 => by
    have ih := endK_form (B := B) (T := T) (x := x) (e0 := e0) (s := s) k
    rw [endK, sumN]
    cases hb : B k
    · rw [if_neg (by simp), if_neg (show ¬ (false = true ∧ T k = s) from fun h => by cases h.1), ih]; grind
    · rw [if_pos rfl]
      unfold upd
      by_cases e : s = T k
      · subst e
        rw [if_pos rfl, if_pos ⟨rfl, rfl⟩, ih]; grind
      · rw [if_neg e, if_neg (show ¬ (true = true ∧ T k = s) from fun h => e h.2.symm), ih]; grind
section
variable {l D : Nat → Bool} {F T : Nat → Nat} {q : Nat → Rat} {nm n i : Nat} {z y : Nat → Rat} {back : Bool}
/-- the solution, 0 everywhere else -/
def solC (back : Bool) (l : Nat → Bool) (F T : Nat → Nat) (q : Nat → Rat) (nm n : Nat) (b : Nat → Rat) : Nat → Rat := fun s => if l s then solB back l F T q nm n b s else 0
theorem AbS.solC_eq (h : AbS nm n F T q D l) (b : Nat → Rat) {s : Nat} (hs : s < n) : solC back l F T q nm n b s = solB back l F T q nm n b s := by
  unfold solC
  cases hl : l s
  · rw [if_neg (by simp), ((h.full back b).2.1 s hs hl)]
  · rw [if_pos rfl]
theorem solC_off (b : Nat → Rat) {s : Nat} (hl : l s = false) : solC back l F T q nm n b s = 0 := by unfold solC; rw [hl]; simp
theorem AbS.solC_on (h : AbS nm n F T q D l) (b : Nat → Rat) {s : Nat} (hl : l s = true) : eqS l F T q back nm (solC back l F T q nm n b) s = b s := by
  rw [← (h.full back b).2.2 s hl]
  exact eqS_congr fun s hs => by unfold solC; rw [if_pos hs]
theorem AbS.solC_nonneg (h : AbS nm n F T q D l) {b : Nat → Rat} (hb : ∀ s, 0 ≤ b s) (s : Nat) : 0 ≤ solC back l F T q nm n b s :=
  h.nonneg (back := back) (fun s hs => solC_off b hs) (fun i hi => by rw [h.solC_on b hi]; exact hb i) s
/-- both sides of a pairing -/
theorem pair_sum (hF : ∀ k, k < nm → F k < n ∧ T k < n) (w : Nat → Rat) : sumN (fun i => w i * eqS l F T q back nm z i) n
    = sumN (fun k => (if l (F k) = true then q k * z (F k) * w (F k) else 0) - (if l (F k) = true ∧ l (T k) = true then q k * z (if back then F k else T k) * w (if back then T k else F k) else 0)) nm := by
  have e1 : sumN (fun i => w i * eqS l F T q back nm z i) n = sumN (fun i => sumN (fun k => w i * eqT l F T q back z i k) nm) n := by
    refine sumN_congr fun i _ => ?_
    unfold eqS
    rw [sumN_smul]
  rw [e1, sumN_swap]
  refine sumN_congr fun k hk => ?_
  obtain ⟨m1, m2⟩ := hF k hk
  have e2 : ∀ i, w i * eqT l F T q back z i k = (if i = F k then (if l (F k) = true then q k * z (F k) * w i else 0) else 0) - (if i = (if back then T k else F k) then (if l (F k) = true ∧ l (T k) = true then q k * z (if back then F k else T k) * w i else 0) else 0) := by
    intro i
    unfold eqT
    by_cases h1 : i = F k
    · by_cases h2 : i = (if back then T k else F k)
      · rw [if_pos h1, if_pos h2]
        by_cases h3 : l (F k) = true
        · by_cases h4 : l (T k) = true
          · rw [if_pos h3, if_pos ⟨h3, h1⟩, if_pos (show (l (F k) = true ∧ l (T k) = true) ∧ i = (if back then T k else F k) from ⟨⟨h3, h4⟩, h2⟩), if_pos (show l (F k) = true ∧ l (T k) = true from ⟨h3, h4⟩)]; grind
          · rw [if_pos h3, if_pos ⟨h3, h1⟩, if_neg (show ¬ ((l (F k) = true ∧ l (T k) = true) ∧ i = (if back then T k else F k)) from fun h => h4 h.1.2), if_neg (show ¬ (l (F k) = true ∧ l (T k) = true) from fun h => h4 h.2)]; grind
        · rw [if_neg h3, if_neg (show ¬ (l (F k) = true ∧ i = F k) from fun h => h3 h.1), if_neg (show ¬ ((l (F k) = true ∧ l (T k) = true) ∧ i = (if back then T k else F k)) from fun h => h3 h.1.1), if_neg (show ¬ (l (F k) = true ∧ l (T k) = true) from fun h => h3 h.1)]; grind
      · rw [if_pos h1, if_neg h2, if_neg (show ¬ ((l (F k) = true ∧ l (T k) = true) ∧ i = (if back then T k else F k)) from fun h => h2 h.2)]
        by_cases h3 : l (F k) = true
        · rw [if_pos h3, if_pos ⟨h3, h1⟩]; grind
        · rw [if_neg h3, if_neg (show ¬ (l (F k) = true ∧ i = F k) from fun h => h3 h.1)]; grind
    · rw [if_neg h1, if_neg (show ¬ (l (F k) = true ∧ i = F k) from fun h => h1 h.2)]
      by_cases h2 : i = (if back then T k else F k)
      · rw [if_pos h2]
        by_cases h3 : l (F k) = true ∧ l (T k) = true
        · rw [if_pos h3, if_pos (show (l (F k) = true ∧ l (T k) = true) ∧ i = (if back then T k else F k) from ⟨h3, h2⟩)]; grind
        · rw [if_neg h3, if_neg (show ¬ ((l (F k) = true ∧ l (T k) = true) ∧ i = (if back then T k else F k)) from fun h => h3 h.1)]; grind
      · rw [if_neg h2, if_neg (show ¬ ((l (F k) = true ∧ l (T k) = true) ∧ i = (if back then T k else F k)) from fun h => h2 h.2)]; grind
  have hb : (if back then T k else F k) < n := by cases back <;> simp <;> assumption
  rw [sumN_congr fun i _ => e2 i, sumN_sub, sumN_pick, sumN_pick, if_pos m1, if_pos hb]
/-! multiplied rates -/
end
end Go.Proofs.YtomkdgcpmpbfhaaGreatDoor
namespace Go.Proofs.YtomkdgcpmpbfhaaGreatDoor
open Go.RowKit
set_option linter.unusedSimpArgs false
set_option linter.unusedVariables false
set_option maxRecDepth 20000
attribute [local irreducible] nv wp win plainB validR valR canR mvE chkM codeC exK maxF
/-! ## package transient: Step -/
theorem Chn.codeR_0 {c : Chn} {r : Rw} (h : c.codeR r = 0) : c.code = 0 ∧ 0 < valR r ∧ c.fast ≤ valR r := by
  unfold Chn.codeR at h
  split at h
  · contradiction
  · rename_i h1
    split at h
    · omega
    · rename_i h2
      rw [not_or] at h2
      exact ⟨by omega, Classical.not_not.1 h2.1, Rat.not_lt.1 h2.2⟩
theorem valR_pos_can {r : Rw} (hok : okR r) (h : 0 < valR r) : canR (valR r) = r := by
  cases hv : validR r
  · exact absurd h (valR_no hv)
  · exact canR_valR hok hv
theorem RdS.ok {w : World} {b0 : Nat} {v : Value} {r : Rw} (h : RdS w b0 v r) : okR r := by
  obtain ⟨_, _, _, _, _, _, _, hok, _⟩ := h
  exact hok
end Go.Proofs.YtomkdgcpmpbfhaaGreatDoor
namespace Go.Proofs.YtomkdgcpmpbfhaaGreatDoor
open Go.RowKit
set_option linter.unusedSimpArgs false
set_option linter.unusedVariables false
set_option maxRecDepth 20000
attribute [local irreducible] nv wp win plainB validR valR canR mvE chkM codeC exK maxF
/-! ## package transient: run -/
def Chn.codeN (c : Chn) (r : Rw) (n : Int) : Int := if c.codeR r ≠ 0 then c.codeR r else if n < 0 ∨ 48 < n then 3 else 0
/-- the distribution after k steps -/
def Chn.run (c : Chn) (ab : Bool) (r : Rat) : Nat → Nat → Rat := runV (c.act ab) c.f c.t c.q r c.nm c.v0
theorem MatO.one {w : World} {b n c : Nat} {A : Option Addr} {M : Nat → Nat → Rat} (h : OwR w b A c n (can (M 0))) (hb : b ≤ w.heap.size) :
    MatO (w.alloc (.cells #[.slice A n c] 32)) b (some ⟨w.heap.size, 0, none⟩) 1 1 (fun _ => n) M := by
  refine ⟨fun _ => A, fun _ => c, ?_, fun j hj => ?_⟩
  · exact World.ownsRow_lit w #[.slice A n c] 1 hb (by unfold maxLen; omega) (by simp)
  · rw [show j = 0 by omega]; exact h.alloc _
def RetRun (b m nd : Nat) (X : Nat → Nat → Rat) (code : Int) (e : Ending) (w' : World) : Prop := if code = 0 then ∃ A c, e = .returned (.tuple #[.slice A (m + 1) c, .nilIface]) ∧ MatO w' b A c (m + 1) (fun _ => nd) X else e = .returned (.tuple #[.slice none 0 0, errM code])
theorem retRun_0 {b m nd : Nat} {X : Nat → Nat → Rat} {code : Int} {A : Option Addr} {c : Nat} {w' : World} (h : code = 0) (hr : MatO w' b A c (m + 1) (fun _ => nd) X) : RetRun b m nd X code (.returned (.tuple #[.slice A (m + 1) c, .nilIface])) w' := by
  unfold RetRun; rw [if_pos h]; exact ⟨A, c, rfl, hr⟩
theorem retRun_n {b m nd : Nat} {X : Nat → Nat → Rat} {code : Int} {w' : World} {z : Value} (h : code ≠ 0) (hz : errM code = z) : RetRun b m nd X code (.returned (.tuple #[.slice none 0 0, z])) w' := by
  unfold RetRun; rw [if_neg h, hz]
end Go.Proofs.YtomkdgcpmpbfhaaGreatDoor
namespace Go.Proofs.YtomkdgcpmpbfhaaGreatDoor
open Go.RowKit
set_option linter.unusedSimpArgs false
set_option linter.unusedVariables false
set_option maxRecDepth 20000
attribute [local irreducible] nv wp win plainB validR valR canR mvE chkM codeC exK maxF dsum
/-! ## package transient: After -/
theorem MatO.at_ {w : World} {b c n j : Nat} {A : Option Addr} {len : Nat → Nat} {M : Nat → Nat → Rat} (h : MatO w b A c n len M) (hj : j < n) : ∃ g Aj cj, A = some ⟨g, 0, none⟩ ∧ b ≤ g ∧ g < w.heap.size ∧ w.cell? ⟨g, j, none⟩ = some (.slice Aj (len j) cj) ∧ OwR w b Aj cj (len j) (can (M j)) := by
  obtain ⟨Ar, cp, h1, h2⟩ := h
  obtain ⟨g, cap, hv, hb, hlt⟩ := h1.form (by omega)
  have hA : A = some ⟨g, 0, none⟩ := by injection hv
  subst hA
  refine ⟨g, Ar j, cp j, rfl, hb, hlt, ?_, h2 j hj⟩
  rw [World.ownsRow.cellAt h1 j (by omega), rowsC_get hj]
/-- a row, and an error's number -/
def RetVx (n : Nat) (x : Nat → Rat) (code : Int) (e : Ending) (w' : World) : Prop := if code = 0 then ∃ A c b, e = .returned (.tuple #[.slice A n c, .nilIface]) ∧ b ≤ w'.heap.size ∧ OwR w' b A c n (can x) else e = .returned (.tuple #[.slice none 0 0, errM code])
theorem retVx_0 {n : Nat} {x : Nat → Rat} {code : Int} {A : Option Addr} {c b : Nat} {w' : World} (h : code = 0) (hb : b ≤ w'.heap.size) (hr : OwR w' b A c n (can x)) : RetVx n x code (.returned (.tuple #[.slice A n c, .nilIface])) w' := by
  unfold RetVx; rw [if_pos h]; exact ⟨A, c, b, rfl, hb, hr⟩
theorem retVx_n {n : Nat} {x : Nat → Rat} {code : Int} {w' : World} {z : Value} (h : code ≠ 0) (hz : errM code = z) : RetVx n x code (.returned (.tuple #[.slice none 0 0, z])) w' := by
  unfold RetVx; rw [if_neg h, hz]
theorem Chn.codeN_0 {c : Chn} {r : Rw} {n : Int} (h : c.codeN r n = 0) : c.codeR r = 0 ∧ 0 ≤ n ∧ n ≤ 48 := by
  unfold Chn.codeN at h
  split at h
  · contradiction
  · rename_i h1
    split at h
    · omega
    · omega
end Go.Proofs.YtomkdgcpmpbfhaaGreatDoor
namespace Go.Proofs.YtomkdgcpmpbfhaaGreatDoor
open Go.RowKit
set_option linter.unusedSimpArgs false
set_option linter.unusedVariables false
set_option maxRecDepth 20000
attribute [local irreducible] nv wp win plainB validR valR canR mvE chkM codeC exK maxF dsum
/-! ## package transient: downs, Downs, First -/
def SumR (g : Nat) (q : Rat) (wr : World) : Prop :=
  ∃ s A1 n1 c1 B1 m1 d1, wr.cell? ⟨g, 0, none⟩ = some (.bool s) ∧ wr.cell? ⟨g, 1, none⟩ = some (.slice A1 n1 c1) ∧ wr.cell? ⟨g, 2, none⟩ = some (.slice B1 m1 d1) ∧ RdS wr 0 (rv s A1 n1 c1 B1 m1 d1) (canR q)
theorem own_of {w : World} {b0 c n : Nat} {A : Option Addr} {R : Nat → Rw} (h : OwR w b0 A c n R) : ∀ q, (Value.slice A n c).ownBlock = some q → b0 ≤ q := fun q hq => (by
  obtain ⟨V, h1, h2⟩ := h
  exact (World.ownsRow.lt h2 q hq).1)
section
variable {w : World} {AM AD : Option Addr} {cm cd L : Nat} {c : Chn} {v : Value} {r : Rw} {n : Int}
/-- what Downs and First need of the numbers -/
structure DnS (c : Chn) (ab : Bool) (r : Rw) (n : Int) (L : Nat) : Prop where
  L1 : 1 ≤ L
  L2 : L ≤ 1000000
  st : c.codeN r n = 0 → ∀ k : Nat, (k : Int) < n → StS c (valR r) (c.run ab (valR r) k) L
  ds : c.codeN r n = 0 → ∀ k : Nat, (k : Int) ≤ n → (∀ j, j ≤ c.nd → Sz L (dsum c.D (c.run ab (valR r) k) j)) ∧ ∀ s, s < c.nd → Sz L (c.run ab (valR r) k s)
theorem retVx_pass {n : Nat} {x : Nat → Rat} {code : Int} {e : Ending} {w1 : World} (hR : RetVx n x code e w1) : ∃ v z, e = .returned (.tuple #[v, z]) ∧ ∀ w2, Below w1.heap.size w1 w2 → RetVx n x code (.returned (.tuple #[v, z])) w2 := by
  unfold RetVx at hR
  by_cases h0 : code = 0
  · rw [if_pos h0] at hR
    obtain ⟨A, c, b, rfl, hb, ow⟩ := hR
    exact ⟨_, _, rfl, fun w2 h => retVx_0 h0 (Nat.le_trans hb h.size) (ow.below h)⟩
  · rw [if_neg h0] at hR
    exact ⟨_, _, hR, fun w2 h => retVx_n h0 rfl⟩
end
end Go.Proofs.YtomkdgcpmpbfhaaGreatDoor
namespace Go.Proofs.YtomkdgcpmpbfhaaGreatDoor
open Go.RowKit
set_option linter.unusedSimpArgs false
set_option linter.unusedVariables false
set_option maxRecDepth 20000
attribute [local irreducible] nv wp win plainB validR valR canR mvE chkM codeC exK maxF dsum
/-! ## chains that are small: all numbers stay short -/
structure Small (c : Chn) : Prop where
  nm : c.nm ≤ 120
  raw : ∀ k, k < c.nm → (c.R k).2.1.length ≤ 1 ∧ (c.R k).2.2.length ≤ 1
  ok : ∀ k, k < c.nm → okR (c.R k)
  den : 6 < c.nm → ∀ k, k < c.nm → (c.R k).2.2.length = 1 → nv (c.R k).2.2 < 16
  nd : c.Ok → c.nd ≤ 9
theorem Small.rts {c : Chn} (h : Small c) (ok : c.Ok) : Rts c.nm c.q (dps c.q c.nm) := by
  refine Rts.of h.nm (fun k hk => Sz_valR (h.ok k hk) (by omega) (h.raw k hk).1 (h.raw k hk).2) fun h6 k hk => ?_
  have hq := (ok.mv k hk).2.2.2.2.2.1
  have hc := valR_pos_can (h.ok k hk) hq
  have hq0 : c.q k ≠ 0 := fun e => by rw [e] at hq; exact absurd hq (by decide)
  have hd : (c.R k).2.2 = dig (c.q k).den := by
    rw [← hc]
    show (canR (c.q k)).2.2 = _
    unfold canR
    rw [if_neg hq0]
  have hl : (c.R k).2.2.length = 1 := by
    have h1 := (h.raw k hk).2
    rcases Nat.lt_or_ge (c.R k).2.2.length 1 with h2 | h2
    · have h3 : (dig (c.q k).den).length = 0 := by rw [← hd]; omega
      exact absurd (dig_len_zero.1 h3) (c.q k).den_nz
    · omega
  have := h.den h6 k hk hl
  rw [hd, nv_dig] at this
  omega
theorem Small.siz {c : Chn} (h : Small c) (ok : c.Ok) : SizC c 400 :=
  ⟨by have := h.nm; omega, by omega, by omega, fun k hk => by have := h.raw k hk; omega, fun s k hk => (exK_sz (h.rts ok) s hk).more (by omega)⟩
theorem Small.chS {c : Chn} (h : Small c) : ChS c 400 := ⟨by have := h.nm; omega, fun k hk => by have := h.raw k hk; omega, h.siz⟩
theorem FzL.v0 (c : Chn) : FzL 1 c.v0 := by
  have h1 : (1 : Nat) < wp 1 := by rw [wp_one]; omega
  refine ⟨1, 1, by omega, h1, h1, fun s => ?_⟩
  unfold Chn.v0
  split
  · exact ⟨1, by decide +kernel, by decide⟩
  · exact ⟨0, by decide +kernel, by decide⟩
theorem Chn.codeN_ok {c : Chn} {r : Rw} {n : Int} (h : c.codeN r n = 0) : c.Ok ∧ 0 < valR r := by
  have h1 := Chn.codeR_0 (Chn.codeN_0 h).1
  exact ⟨Chn.ok_iff.1 h1.1, h1.2.1⟩
end Go.Proofs.YtomkdgcpmpbfhaaGreatDoor
namespace Go.Proofs.YtomkdgcpmpbfhaaGreatDoor
set_option linter.unusedSimpArgs false
set_option linter.unusedVariables false
/-! ## live states, times, visits, ends of a chain (plain) -/
/-- the live states at the start -/
def Chn.lv0 (c : Chn) : Nat → Bool := upd (fun _ => false) c.sr.toNat (!c.D c.sr.toNat)
/-- after r rounds -/
def Chn.lvN (c : Chn) (r : Nat) : Nat → Bool := sprN (fun s => !c.D s) c.f c.t c.nm c.lv0 r
def Chn.lv (c : Chn) : Nat → Bool := c.lvN c.nd
/-- the states from which a run can end -/
def Chn.enN (c : Chn) (r : Nat) : Nat → Bool := sprN (fun _ => true) c.t c.f c.nm c.D r
def Chn.en (c : Chn) : Nat → Bool := c.enN c.nd
def Chn.allE (c : Chn) : Prop := ∀ s, s < c.nd → c.lv s = true → c.en s = true
open Classical in
/-- the number of a chain's error -/
noncomputable def Chn.codeA (c : Chn) : Int := if c.code ≠ 0 then c.code else if c.allE then 0 else 17
section
variable {c : Chn}
theorem Chn.codeA_0 (h : c.codeA = 0) : c.code = 0 ∧ c.allE := by
  unfold Chn.codeA at h
  split at h
  · contradiction
  · rename_i h1
    split at h
    · rename_i h2; exact ⟨by omega, h2⟩
    · omega
theorem Chn.codeA_ok (h : c.codeA = 0) : c.Ok := Chn.ok_iff.1 (Chn.codeA_0 h).1
theorem Chn.codeA_n (h : c.code ≠ 0) : c.codeA = c.code := by unfold Chn.codeA; rw [if_pos h]
theorem Chn.codeA_17 (h : c.code = 0) (h2 : ¬ c.allE) : c.codeA = 17 := by unfold Chn.codeA; rw [if_neg (by omega), if_neg h2]
theorem Chn.codeA_z (h : c.code = 0) (h2 : c.allE) : c.codeA = 0 := by unfold Chn.codeA; rw [if_neg (by omega), if_pos h2]
theorem Chn.ftA {c : Chn} (ok : c.Ok) : ∀ j, j < c.nm → c.f j < c.nd ∧ c.t j < c.nd ∧ c.f j ≠ c.t j := fun j hj => by
  have := ok.mv j hj
  unfold Chn.f Chn.t
  omega
theorem Chn.lt_t (ok : c.Ok) : ∀ j, j < c.nm → c.t j < c.nd := fun j hj => (Chn.ftA ok j hj).2.1
theorem Chn.lt_f (ok : c.Ok) : ∀ j, j < c.nm → c.f j < c.nd := fun j hj => (Chn.ftA ok j hj).1
theorem Chn.sr_lt (ok : c.Ok) : c.sr.toNat < c.nd := by have := ok.s0; have := ok.s1; omega
theorem Chn.lv_ln (ok : c.Ok) (s : Nat) (h : c.lv s = true) : s < c.nd :=
  sprN_ind (P := fun s => s < c.nd) (fun k hk _ _ => Chn.lt_t ok k hk) (fun s hs => by
    unfold Chn.lv0 upd at hs
    split at hs
    · rename_i e; rw [e]; exact Chn.sr_lt ok
    · cases hs) _ s h
theorem Chn.lv_ld (s : Nat) (h : c.lv s = true) : c.D s = false :=
  sprN_ind (P := fun s => c.D s = false) (fun k hk _ h => by simpa using h) (fun s hs => by
    unfold Chn.lv0 upd at hs
    split at hs
    · rename_i e; rw [e]; simpa using hs
    · cases hs) _ s h
theorem Chn.lv_shut (ok : c.Ok) : Shut (fun s => !c.D s) c.f c.t c.nm c.lv := sprN_shut (Chn.lt_t ok)
theorem Chn.lv_start : c.lv c.sr.toNat = !c.D c.sr.toNat := by
  cases h : c.D c.sr.toNat
  · exact sprN_grow (by unfold Chn.lv0 upd; rw [if_pos rfl, h]; rfl) _
  · cases h2 : c.lv c.sr.toNat
    · rfl
    · have := c.lv_ld _ h2
      rw [h] at this
      cases this
theorem Chn.abS (h : c.codeA = 0) : AbS c.nm c.nd c.f c.t c.q c.D c.lv := by
  have ok := Chn.codeA_ok h
  refine ⟨fun k hk => ?_, Chn.lv_ln ok, Chn.lv_ld, fun k hk h1 h2 => Chn.lv_shut ok k hk h1 (by simp [h2]), fun P h0 h1 s hs => ?_⟩
  · have h1 := Chn.ftA ok k hk
    exact ⟨h1.1, h1.2.1, h1.2.2, (ok.mv k hk).2.2.2.2.2.1⟩
  · have hs1 := Chn.lv_ln ok s hs
    have he := (Chn.codeA_0 h).2 s hs1 hs
    exact sprN_ind (P := fun s => s < c.nd → P s) (G := fun _ => true) (F := c.t) (T := c.f) (nm := c.nm) (l := c.D) (fun k hk hp _ hf => h1 k hk (hp (Chn.lt_t ok k hk))) (fun s hs hlt => h0 s hlt hs) c.nd s he hs1
end
/-- the expected times -/
def Chn.times (c : Chn) : Nat → Rat := solC false c.lv c.f c.t c.q c.nm c.nd (fun _ => 1)
/-- the expected times in the states -/
def Chn.visits (c : Chn) : Nat → Rat := solC true c.lv c.f c.t c.q c.nm c.nd (fun s => if s = c.sr.toNat then 1 else 0)
def Chn.end0 (c : Chn) : Nat → Rat := upd (fun _ => 0) c.sr.toNat (if c.D c.sr.toNat then 1 else 0)
def Chn.ends (c : Chn) : Nat → Rat := endK (fun k => c.lv (c.f k) && c.D (c.t k)) c.t (fun k => c.q k * c.visits (c.f k)) c.end0 c.nm
end Go.Proofs.YtomkdgcpmpbfhaaGreatDoor
namespace Go.Proofs.YtomkdgcpmpbfhaaGreatDoor
open Go.RowKit
set_option linter.unusedSimpArgs false
set_option linter.unusedVariables false
set_option maxRecDepth 20000
attribute [local irreducible] nv wp win plainB validR valR canR mvE chkM codeC exK maxF dsum
/-! ## the laws' Few and brief -/
theorem RdS.lens' {w : World} {b0 : Nat} {s : Bool} {A B : Option Addr} {n c m d : Nat} {r : Rw} (h : RdS w b0 (rv s A n c B m d) r) : r.2.1.length = n ∧ r.2.2.length = m ∧ n ≤ c ∧ m ≤ d ∧ RdW w w.heap.size B r.2.2 := by
  obtain ⟨A', c', B', d', e, hc, hd, _, _, hB, _⟩ := h
  unfold rv at e
  injection e with e
  simp at e
  obtain ⟨-, ⟨-, rfl, rfl⟩, ⟨rfl, rfl, rfl⟩⟩ := e
  exact ⟨rfl, rfl, hc, hd, hB⟩
def RetB (P : Prop) (e : Ending) : Prop := ∃ b : Bool, e = .returned (.bool b) ∧ (b = true → P)
theorem retB_f {P : Prop} : RetB P (.returned (.bool false)) := ⟨false, rfl, fun h => nomatch h⟩
theorem retB_t {P : Prop} (h : P) : RetB P (.returned (.bool true)) := ⟨true, rfl, fun _ => h⟩
end Go.Proofs.YtomkdgcpmpbfhaaGreatDoor
namespace Go.Proofs.YtomkdgcpmpbfhaaGreatDoor
set_option linter.unusedSimpArgs false
set_option linter.unusedVariables false
/-! ## steps with a rate of up to 20 words: all numbers stay short (plain) -/
section
variable {act : Nat → Bool} {F T : Nat → Nat} {v q : Nat → Rat} {r : Rat} {nm P L : Nat}
theorem FzL.partsG (hv : FzL L v) (h : Rts nm q P) (hr : 0 < r) (hrs : Sz 20 r) :
    (∀ k, k < nm → Sz (L + 40) (shr F q r v k)) ∧ (∀ k, k ≤ nm → FzL (L + 40) (stp act F T v (shr F q r v) k)) ∧ (∀ k, k < nm → Sz (L + 40) (v (F k) * q k)) := by
  obtain ⟨D, Z, h0, h1, h2, h3⟩ := hv
  have hP := h.lt
  have hn := h.few
  have hrn := hrs.1
  have hrd := hrs.2
  have hr0 : r.num.natAbs ≠ 0 := natAbs_num_ne (fun e => by rw [e] at hr; exact absurd hr (by decide))
  have hsh : ∀ k, k < nm → Fz (D * P * r.num.natAbs) (Z * (4294967296 * P) * r.den) (shr F q r v k) := fun k hk => by
    have e : shr F q r v k = v (F k) * q k * (1 / r) := by unfold shr; grind
    rw [e]
    exact ((h3 _).mul (h.fz k hk)).mul (Fz.inv hr)
  have hv2 : ∀ s, Fz (D * P * r.num.natAbs) (Z * P * r.num.natAbs) (v s) := fun s => ((h3 s).up P).up _
  have hD0 : D * P * r.num.natAbs ≠ 0 := Nat.mul_ne_zero (Nat.mul_ne_zero h0 h.ne) hr0
  have hD1 : D * P * r.num.natAbs < wp (L + 40) := lt_wp_more (wp_mul_lt (wp_mul_lt h1 hP) hrn) (by omega)
  have b1 : 4294967296 * P < wp 17 := by rw [← wp_lt_succ]; omega
  have b2 : Z * (4294967296 * P) * r.den < wp (L + 17 + 20) := wp_mul_lt (wp_mul_lt h2 b1) hrd
  have b3 : Z * P * r.num.natAbs < wp (L + 16 + 20) := wp_mul_lt (wp_mul_lt h2 hP) hrn
  refine ⟨fun k hk => (hsh k hk).sz hD0 (by omega) hD1 (lt_wp_more b2 (by omega)), fun k hk => ⟨_, Z * P * r.num.natAbs + k * (Z * (4294967296 * P) * r.den), hD0, hD1, ?_, stp_fz hv2 fun j hj => hsh j (by omega)⟩, fun k hk => ?_⟩
  · have b4 : k * (Z * (4294967296 * P) * r.den) < wp (1 + (L + 17 + 20)) := wp_mul_lt (by rw [wp_one]; omega) b2
    refine lt_wp_more (lt_wp_add (L := L + 38) (lt_wp_more b3 (by omega)) (lt_wp_more b4 (by omega))) (by omega)
  · refine ((h3 _).mul (h.fz k hk)).sz (Nat.mul_ne_zero h0 h.ne) (by omega) (lt_wp_more (wp_mul_lt h1 hP) (by omega)) (lt_wp_more (wp_mul_lt h2 b1) (by omega))
theorem FzL.runG (hv : FzL L v) (h : Rts nm q P) (hr : 0 < r) (hrs : Sz 20 r) : ∀ k, FzL (L + 40 * k) (runV act F T q r nm v k)
  | 0 => hv
  | k + 1 => by rw [runV]; exact (((hv.runG h hr hrs k).partsG h hr hrs).2.1 nm (Nat.le_refl _)).more (by omega)
end
theorem Small.stSG {c : Chn} (h : Small c) (ok : c.Ok) {r : Rat} (hr : 0 < r) (hrs : Sz 20 r) {v : Nat → Rat} {L : Nat} (hv : FzL L v) (hL : 1 ≤ L) (hL2 : L ≤ 300) : StS c r v 400 := by
  have hp := fun ab => hv.partsG (act := c.act ab) (F := c.f) (T := c.t) (h.rts ok) hr hrs
  exact ⟨by omega, by omega, fun k hk => by have := h.raw k hk; omega, by have := h.nm; omega, fun s _ => (hv.sz hL s).more (by omega), hrs.more (by omega), fun k hk => ((hp true).2.2 k hk).more (by omega), fun k hk => ((hp true).1 k hk).more (by omega), fun ab k s hk => (((hp ab).2.1 k hk).sz (by omega) s).more (by omega)⟩
theorem Small.runG {c : Chn} (h : Small c) (ok : c.Ok) {r : Rat} (hr : 0 < r) (hrs : Sz 20 r) (ab : Bool) (k : Nat) : FzL (1 + 40 * k) (c.run ab r k) := (FzL.v0 c).runG (h.rts ok) hr hrs k
theorem Small.stG {c : Chn} (h : Small c) {r : Rw} (hrs : Sz 20 (valR r)) {n : Int} (hn : n ≤ 7) (ab : Bool) : c.codeN r n = 0 → ∀ k : Nat, (k : Int) < n → StS c (valR r) (c.run ab (valR r) k) 400 := fun h0 k hk => by
  have h4 := Chn.codeN_ok h0
  exact h.stSG h4.1 h4.2 hrs (h.runG h4.1 h4.2 hrs ab k) (by omega) (by omega)
theorem Small.dnG {c : Chn} (h : Small c) {r : Rw} (hrs : Sz 20 (valR r)) {n : Int} (hn : n ≤ 7) (ab : Bool) : DnS c ab r n 400 :=
  ⟨by omega, by omega, h.stG hrs hn ab, fun h0 k hk => by
    have h4 := Chn.codeN_ok h0
    have hf := h.runG h4.1 h4.2 hrs ab k
    refine ⟨fun j hj => (hf.dsum (by have := h.nd h4.1; omega)).more (by omega), fun s _ => (hf.sz (by omega) s).more (by omega)⟩⟩
theorem Small.fast18 {c : Chn} (h : Small c) (ok : c.Ok) : Sz 18 c.fast := maxF_sz fun j _ => exK_sz (h.rts ok) j (Nat.le_refl _)
theorem Small.rate20 {c : Chn} (h : Small c) (ok : c.Ok) : Sz 20 (c.fast + 1) := (h.fast18 ok).add (Sz.one (Nat.le_refl 1))
end Go.Proofs.YtomkdgcpmpbfhaaGreatDoor
namespace Go.Proofs.YtomkdgcpmpbfhaaGreatDoor
open Go.RowKit
set_option linter.unusedSimpArgs false
set_option linter.unusedVariables false
set_option maxRecDepth 20000
attribute [local irreducible] nv wp win plainB validR valR canR
/-! ## rows of moves that grow, blocks of a kind -/
/-- what kind of block it is -/
def TyB (t : TypeId) (w : World) (g : Nat) : Prop := ∃ cur fz, w.heap[g]? = some (.cells cur t fz)
section
variable {t : TypeId} {w w' : World} {g b0 : Nat}
theorem TyB.below {B : Nat} (h : TyB t w g) (hb : Below B w w') (hg : g < B) : TyB t w' g := by
  obtain ⟨cur, fz, h⟩ := h
  exact ⟨cur, fz, (hb.block g hg).trans h⟩
theorem TyB.new (w : World) (cs : Array Value) : TyB t (w.alloc (.cells cs t)) w.heap.size := ⟨cs, _, heap_alloc_new w _⟩
theorem TyB.set (h : TyB t w g) (b o : Nat) (u : Value) : TyB t (w.setCell ⟨b, o, none⟩ u) g := by
  obtain ⟨cur, fz, h⟩ := h
  by_cases e : b = g
  · subst e
    refine ⟨cur.setIfInBounds o u, fz, ?_⟩
    simp [World.setCell, Array.getElem?_modify, h]
  · refine ⟨cur, fz, ?_⟩
    simp [World.setCell, Array.getElem?_modify, h, e]
theorem TyB.lt (h : TyB t w g) : g < w.heap.size := by
  obtain ⟨cur, fz, h⟩ := h
  exact (Array.getElem?_eq_some_iff.1 h).1
theorem TyB.grown (h : TyB t w g) {row : Option Nat} (hg : w.grownBy w' row) (hr : some g ≠ row) : TyB t w' g := by
  have hl := h.lt
  obtain ⟨cur, fz, h⟩ := h
  exact ⟨cur, fz, (hg.block g hl hr).trans h⟩
/-- a store into a block that holds no words -/
theorem Kp.set1 (h : TyB t w g) (ht : t ≠ 66) (hb : b0 ≤ g) (o : Nat) (u : Value) : Kp b0 w (w.setCell ⟨g, o, none⟩ u) := by
  obtain ⟨cur, fz, h⟩ := h
  exact (Kp.refl b0 w).store (p := ⟨g, o, none⟩) h ht hb u
end
theorem OwM.blockA {w : World} {b0 c n : Nat} {A : Option Addr} {F T : Nat → Int} {R : Nat → Rw} {a : Addr} (h : OwM w b0 A c n F T R) (ha : A = some a) : b0 ≤ a.block ∧ ∃ cur, w.heap[a.block]? = some (.cells cur 65 (0, 0)) := by
  subst ha
  obtain ⟨V, h1, h2⟩ := h
  rcases h2.2 with ⟨h, _⟩ | ⟨g', cap, cur, e, hb, hg, _⟩
  · cases h
  · injection e with e
    injection e with e
    subst e
    exact ⟨hb, cur, hg⟩
theorem Kp.of_grownT {t : TypeId} {w w' : World} {b0 : Nat} (ht : t ≠ 66) {row : Option Nat} (h : w.grownBy w' row) (hr : ∀ k, row = some k → b0 ≤ k ∧ ∃ cur, w.heap[k]? = some (.cells cur t (0, 0))) : Kp b0 w w' := by
  cases row with
  | none => exact ⟨h.os, h.tape, h.output, h.size, fun k hk _ => h.block k hk (by simp)⟩
  | some g =>
    obtain ⟨h1, cur, h2⟩ := hr g rfl
    exact Kp.grown h h1 h2 ht
theorem OwM.snoc {w w1 : World} {b0 n c' g' : Nat} {F T : Nat → Int} {R : Nat → Rw} {V : Nat → Value} {f t : Int} {v : Value} {r : Rw} (hV : ∀ k, k < n → RdS w b0 (V k) (R k)) (hr : RdS w b0 v r) (hk : Kp b0 w w1)
    (h : w1.ownsRow b0 65 5 (.slice (some ⟨g', 0, none⟩) (n + 1) c') (n + 1) (cellsM n F T V ++ cellM f t v)) : OwM w1 b0 (some ⟨g', 0, none⟩) c' (n + 1) (upd F n f) (upd T n t) (upd R n r) := by
  refine ⟨upd V n v, fun k hkn => ?_, ?_⟩
  · by_cases e : k = n
    · subst e; rw [upd_same, upd_same]; exact hr.kp hk
    · rw [upd_ne _ _ e, upd_ne _ _ e]; exact (hV k (by omega)).kp hk
  · rw [cellsM_succ, upd_same, upd_same, upd_same, cellsM_congr (F' := F) (T' := T) (U := V) fun j hj => ⟨upd_ne _ _ (by omega), upd_ne _ _ (by omega), upd_ne _ _ (by omega)⟩]
    exact h
/-- out = append(out, m) -/
theorem wpList_appM1 {w : World} {ops : Array Oper} {rest : List Oper} {o : Oper} {a : Act} {Q : Exit → Act → World → Prop} (hgd : o.guard = none) (s x : Operand)
    (ho : o.op = .call { callee := .builtin .append, args := #[s, x], argTypes := #[22, 22] })
    (b0 : Nat) (A : Option Addr) (c n : Nat) (F T : Nat → Int) (R : Nat → Rw) (hs : a.eval s = .slice A n c) (hown : OwM w b0 A c n F T R)
    (B : Nat) (f t : Int) (sg : Bool) (A1 : Option Addr) (n1 c1 : Nat) (B1 : Option Addr) (m1 d1 : Nat) (r : Rw) (hx : a.eval x = .slice (some ⟨B, 0, none⟩) 1 1)
    (hc0 : w.cell? ⟨B, 0, none⟩ = some (.int .i64 f)) (hc1 : w.cell? ⟨B, 1, none⟩ = some (.int .i64 t)) (hc2 : w.cell? ⟨B, 2, none⟩ = some (.bool sg)) (hc3 : w.cell? ⟨B, 3, none⟩ = some (.slice A1 n1 c1)) (hc4 : w.cell? ⟨B, 4, none⟩ = some (.slice B1 m1 d1)) (hr : RdS w b0 (rv sg A1 n1 c1 B1 m1 d1) r)
    (hn : n ≤ 1000000) (hbase : b0 ≤ w.heap.size)
    (h : ∀ g cap w', OwM w' b0 (some ⟨g, 0, none⟩) cap (n + 1) (upd F n f) (upd T n t) (upd R n r) → w.grownBy w' (Value.slice A n c).ownBlock → ((Value.slice A n c).ownBlock = some g ∨ w.heap.size ≤ g) → g < w'.heap.size → wpList Tryz.prog ops Q rest (a.put o.dst (.slice (some ⟨g, 0, none⟩) (n + 1) cap)) w') : wpList Tryz.prog ops Q (o :: rest) a w := by
  obtain ⟨i0, hi0, hz0, hz1, hz2⟩ := info_parts moveInfo
  have hown0 := hown
  obtain ⟨V, hV, hown⟩ := hown
  refine wpList_append_lies _ hgd s x 22 ho b0 65 i0 _ 5 72 Tryz.underlying22 hi0 hz0 hz1 hz2 rfl (by omega) _ n _ hs hown ⟨B, 0, none⟩ 1 1 (cellM f t (rv sg A1 n1 c1 B1 m1 d1)) hx rfl ?_ ?_ (by omega) (by unfold maxLen; omega) (by omega) hbase w.heap.size rfl ?_
  · intro j u hu
    rw [addr_add, Nat.zero_add]
    match j, hu with
    | 0, hu => simp [cellM, c3] at hu; subst hu; exact hc0
    | 1, hu => simp [cellM, c3] at hu; subst hu; exact hc1
    | 2, hu => simp [cellM, c3] at hu; subst hu; exact hc2
    | 3, hu => simp [cellM, c3] at hu; subst hu; exact hc3
    | 4, hu => simp [cellM, c3] at hu; subst hu; exact hc4
    | j + 5, hu => simp [cellM, c3] at hu
  · intro u hu
    simp [cellM, c3] at hu
    rcases hu with rfl | rfl | rfl | rfl | rfl <;> rfl
  · intro g cap w' h1 h2 h3 h4
    refine h g cap w' (OwM.snoc hV hr (Kp.of_grownT (t := 65) (by decide) h2 ?_) h1) h2 (h3.imp id fun e => by omega) h4
    intro k hk
    cases e : A with
    | none => rw [e] at hk; cases hk
    | some a =>
      rw [e] at hk
      injection hk with hk
      subst hk
      exact hown0.blockA e
/-- four cells of a block are stored -/
theorem same4 {w : World} {g : Nat} {u0 u1 u2 u3 : Value} (a b d e : Value) (z0 : w.cell? ⟨g, 0, none⟩ = some u0) (z1 : w.cell? ⟨g, 1, none⟩ = some u1) (z2 : w.cell? ⟨g, 2, none⟩ = some u2) (z3 : w.cell? ⟨g, 3, none⟩ = some u3) :
    (w.setCell ⟨g, 0, none⟩ a).cell? ⟨g, 0, none⟩ = some a ∧ ((w.setCell ⟨g, 0, none⟩ a).setCell ⟨g, 1, none⟩ b).cell? ⟨g, 1, none⟩ = some b
    ∧ (((w.setCell ⟨g, 0, none⟩ a).setCell ⟨g, 1, none⟩ b).setCell ⟨g, 2, none⟩ d).cell? ⟨g, 2, none⟩ = some d ∧ ((((w.setCell ⟨g, 0, none⟩ a).setCell ⟨g, 1, none⟩ b).setCell ⟨g, 2, none⟩ d).setCell ⟨g, 3, none⟩ e).cell? ⟨g, 3, none⟩ = some e := by
  have n : ∀ {i j : Nat}, j ≠ i → (⟨g, i, none⟩ : Addr) ≠ ⟨g, j, none⟩ := fun h e => by injection e with _ e; omega
  refine ⟨World.cell?_setCell_same (u := u0) _ _ _ z0, World.cell?_setCell_same (u := u1) _ _ _ ?_, World.cell?_setCell_same (u := u2) _ _ _ ?_, World.cell?_setCell_same (u := u3) _ _ _ ?_⟩
  · rw [World.cell?_setCell_other (h := n (by omega))]; exact z1
  · rw [World.cell?_setCell_other (h := n (by omega)), World.cell?_setCell_other (h := n (by omega))]; exact z2
  · rw [World.cell?_setCell_other (h := n (by omega)), World.cell?_setCell_other (h := n (by omega)), World.cell?_setCell_other (h := n (by omega))]; exact z3
/-- three blocks that are new -/
theorem alloc3 (w : World) (c0 c1 c2 : Array Value) (t0 t1 t2 : TypeId) : ∃ W, W = ((w.alloc (.cells c0 t0)).alloc (.cells c1 t1)).alloc (.cells c2 t2) ∧ Below w.heap.size w W ∧ W.heap.size = w.heap.size + 3
    ∧ (∀ j, W.cell? ⟨w.heap.size, j, none⟩ = c0[j]?) ∧ (∀ j, W.cell? ⟨w.heap.size + 1, j, none⟩ = c1[j]?) ∧ (∀ j, W.cell? ⟨w.heap.size + 2, j, none⟩ = c2[j]?)
    ∧ (∀ j, W.frozen? ⟨w.heap.size + 1, j, none⟩ = false) ∧ (∀ j, W.frozen? ⟨w.heap.size + 2, j, none⟩ = false) ∧ TyB t1 W (w.heap.size + 1) ∧ TyB t2 W (w.heap.size + 2) := by
  refine ⟨_, rfl, (((Below.refl _ _).alloc (Nat.le_refl _) _).alloc (by simp) _).alloc (by simp; omega) _, by simp, fun j => ?_, fun j => ?_, fun j => ?_, fun j => ?_, fun j => ?_, ?_, ?_⟩
  · rw [World.cell?_alloc_past _ _ _ (by simp; omega), World.cell?_alloc_past _ _ _ (by simp), World.cell?_alloc_at _ _ _ _ rfl]
  · rw [World.cell?_alloc_past _ _ _ (by simp), World.cell?_alloc_at _ _ _ _ (by simp)]
  · rw [World.cell?_alloc_at _ _ _ _ (by simp)]
  · rw [World.frozen?_alloc_past _ _ _ (by simp), World.frozen?_alloc_at _ _ _ _ (by simp)]
  · rw [World.frozen?_alloc_at _ _ _ _ (by simp)]
  · have := TyB.new (t := t1) (w.alloc (.cells c0 t0)) c1
    rw [show (w.alloc (.cells c0 t0)).heap.size = w.heap.size + 1 by simp] at this
    exact this.below ((Below.refl _ _).alloc (Nat.le_refl _) _) (by simp)
  · have := TyB.new (t := t2) ((w.alloc (.cells c0 t0)).alloc (.cells c1 t1)) c2
    rwa [show ((w.alloc (.cells c0 t0)).alloc (.cells c1 t1)).heap.size = w.heap.size + 2 by simp] at this
/-- a store into another block -/
theorem OwM.set1 {ty : TypeId} {w : World} {b0 c n g : Nat} {A : Option Addr} {F T : Nat → Int} {R : Nat → Rw} (h : OwM w b0 A c n F T R) (hT : TyB ty w g) (ht : ty ≠ 66) (hb : b0 ≤ g) (hne : ∀ q, (Value.slice A n c).ownBlock = some q → q ≠ g) (o : Nat) (u : Value) : OwM (w.setCell ⟨g, o, none⟩ u) b0 A c n F T R := by
  obtain ⟨V, h1, h2⟩ := h
  refine ⟨V, fun k hk => (h1 k hk).kp (Kp.set1 hT ht hb o u), h2.kept (row := some g) ⟨rfl, rfl, rfl, by simp, fun k hk hk2 => Below.heap_setCell w ⟨g, o, none⟩ u k (fun e => hk2 (by rw [e]))⟩ ?_⟩
  cases e : (Value.slice A n c).ownBlock with
  | none => exact .inl rfl
  | some q => exact .inr fun e2 => hne q e (by injection e2)
end Go.Proofs.YtomkdgcpmpbfhaaGreatDoor
namespace Go.Proofs.YtomkdgcpmpbfhaaGreatDoor
open Go.RowKit
set_option linter.unusedSimpArgs false
set_option linter.unusedVariables false
set_option maxRecDepth 20000
attribute [local irreducible] nv wp win plainB validR valR canR mvE chkM codeC
/-! ## what a walk along the moves of a chain reads -/
theorem ChI.mv_at {w : World} {b0 cm cd : Nat} {AM AD : Option Addr} {c : Chn} (h : ChI w b0 AM cm AD cd c) (ok : c.Ok) {k : Nat} (hk : k < c.nm) : ∃ bm om s1 A1 n1 c1 B1 m1 d1, AM = some ⟨bm, om, none⟩ ∧ bm < w.heap.size
    ∧ w.cell? ⟨bm, om + k * 5, none⟩ = some (.int .i64 ((c.f k : Nat) : Int)) ∧ w.cell? ⟨bm, om + k * 5 + 1, none⟩ = some (.int .i64 ((c.t k : Nat) : Int)) ∧ w.cell? ⟨bm, om + k * 5 + 2, none⟩ = some (.bool s1) ∧ w.cell? ⟨bm, om + k * 5 + 3, none⟩ = some (.slice A1 n1 c1) ∧ w.cell? ⟨bm, om + k * 5 + 4, none⟩ = some (.slice B1 m1 d1)
    ∧ RdS w b0 (rv s1 A1 n1 c1 B1 m1 d1) (c.R k) ∧ c.f k < c.nd ∧ c.t k < c.nd ∧ c.f k ≠ c.t k := by
  obtain ⟨bm, om, s1, A1, n1, c1, B1, m1, d1, e, hbm, f0, f1, f2, f3, f4, r1⟩ := h.mv.1.at_ hk
  obtain ⟨e0, e1, e2, e3, e4, e5, -⟩ := ok.mv k hk
  have hf : c.F k = ((c.f k : Nat) : Int) := by unfold Chn.f; omega
  have ht : c.T k = ((c.t k : Nat) : Int) := by unfold Chn.t; omega
  rw [hf] at f0
  rw [ht] at f1
  exact ⟨bm, om, s1, A1, n1, c1, B1, m1, d1, e, hbm, f0, f1, f2, f3, f4, r1, by omega, by omega, fun h => e4 (by omega)⟩
/-- .. in a later world -/
theorem ChI.mv_later {w W : World} {cm cd : Nat} {AM AD : Option Addr} {c : Chn} (h : ChI w w.heap.size AM cm AD cd c) (ok : c.Ok) (hb : Below w.heap.size w W) {k : Nat} (hk : k < c.nm) : ∃ bm om s1 A1 n1 c1 B1 m1 d1, AM = some ⟨bm, om, none⟩ ∧ bm < w.heap.size
    ∧ W.cell? ⟨bm, om + k * 5, none⟩ = some (.int .i64 ((c.f k : Nat) : Int)) ∧ W.cell? ⟨bm, om + k * 5 + 1, none⟩ = some (.int .i64 ((c.t k : Nat) : Int)) ∧ W.cell? ⟨bm, om + k * 5 + 2, none⟩ = some (.bool s1) ∧ W.cell? ⟨bm, om + k * 5 + 3, none⟩ = some (.slice A1 n1 c1) ∧ W.cell? ⟨bm, om + k * 5 + 4, none⟩ = some (.slice B1 m1 d1)
    ∧ RdS W w.heap.size (rv s1 A1 n1 c1 B1 m1 d1) (c.R k) ∧ c.f k < c.nd ∧ c.t k < c.nd ∧ c.f k ≠ c.t k := by
  obtain ⟨bm, om, s1, A1, n1, c1, B1, m1, d1, e, hbm, f0, f1, f2, f3, f4, r1, h1, h2, h3⟩ := h.mv_at ok hk
  exact ⟨bm, om, s1, A1, n1, c1, B1, m1, d1, e, hbm, (hb.cell (p := ⟨bm, om + k * 5, none⟩) hbm).trans f0, (hb.cell (p := ⟨bm, om + k * 5 + 1, none⟩) hbm).trans f1, (hb.cell (p := ⟨bm, om + k * 5 + 2, none⟩) hbm).trans f2, (hb.cell (p := ⟨bm, om + k * 5 + 3, none⟩) hbm).trans f3, (hb.cell (p := ⟨bm, om + k * 5 + 4, none⟩) hbm).trans f4, r1.kp (Kp.of_below hb), h1, h2, h3⟩
theorem ChI.dn_later {w W : World} {cm cd : Nat} {AM AD : Option Addr} {c : Chn} (h : ChI w w.heap.size AM cm AD cd c) (hb : Below w.heap.size w W) {s : Nat} (hs : s < c.nd) : ∃ bd od, AD = some ⟨bd, od, none⟩ ∧ bd < w.heap.size ∧ W.cell? ⟨bd, od + s, none⟩ = some (.bool (c.D s)) := by
  obtain ⟨bd, od, e, hbd, -, p0⟩ := h.down hs
  exact ⟨bd, od, e, hbd, (hb.cell (p := ⟨bd, od + s, none⟩) hbd).trans p0⟩
/-- the block of the chain that a call was handed -/
theorem par_cell {w W : World} {cs : Array Value} {t : TypeId} (hb : Below (w.heap.size + 1) (w.alloc (.cells cs t)) W) (j : Nat) : W.cell? ⟨w.heap.size, j, none⟩ = cs[j]? := by
  rw [hb.cell (p := ⟨w.heap.size, j, none⟩) (by show w.heap.size < _; omega), World.cell?_alloc_at _ _ _ _ rfl]
theorem par_cells {w W : World} {a b d e : Value} {t : TypeId} (hb : Below (w.heap.size + 1) (w.alloc (.cells #[a, b, d, e] t)) W) : W.cell? ⟨w.heap.size, 0, none⟩ = some a ∧ W.cell? ⟨w.heap.size, 1, none⟩ = some b ∧ W.cell? ⟨w.heap.size, 2, none⟩ = some d ∧ W.cell? ⟨w.heap.size, 3, none⟩ = some e := ⟨par_cell hb 0, par_cell hb 1, par_cell hb 2, par_cell hb 3⟩
theorem par_below {w W : World} {o : Obj} (hb : Below (w.heap.size + 1) (w.alloc o) W) : Below w.heap.size w W := ((Below.refl _ _).alloc (Nat.le_refl _) o).trans (hb.mono (by omega))
end Go.Proofs.YtomkdgcpmpbfhaaGreatDoor
namespace Go.Proofs.YtomkdgcpmpbfhaaGreatDoor
open Go.RowKit
set_option linter.unusedSimpArgs false
set_option linter.unusedVariables false
set_option maxRecDepth 20000
attribute [local irreducible] nv wp win plainB validR valR canR
/-! ## no words lie in some blocks: so the bound below which a fraction's words may lie is lowered -/
def NWB (w : World) (k : Nat) : Prop := ∃ cs t fz, w.heap[k]? = some (.cells cs t fz) ∧ ∀ (j : Nat) u, cs[j]? = some u → ∀ x : Int, u ≠ .int .u32 x
section
variable {w w' : World} {b0 b1 bo co n c g bd : Nat} {A : Option Addr} {v : Value} {r : Rw} {R : Nat → Rw} {len : Nat → Nat} {M : Nat → Nat → Rat}
end
/-! ## reference: Reduce -/
end Go.Proofs.YtomkdgcpmpbfhaaGreatDoor
namespace Go.Proofs.YtomkdgcpmpbfhaaGreatDoor
open Go.RowKit
set_option linter.unusedSimpArgs false
set_option linter.unusedVariables false
set_option maxRecDepth 20000
attribute [local irreducible] nv wp win plainB validR valR canR
/-! ## a row of the call's own, its words anywhere ahead of another bound -/
def OwS (w : World) (b0 base : Nat) (A : Option Addr) (c n : Nat) (R : Nat → Rw) : Prop := ∃ V, (∀ k, k < n → RdS w b0 (V k) (R k)) ∧ w.ownsRow base 50 3 (.slice A n c) n (cellsV n V)
section
variable {w w' : World} {b0 b1 base c n g : Nat} {A : Option Addr} {R U : Nat → Rw}
theorem RdW.keepN {l : List Nat} (h : RdW w w.heap.size A l) (hg : w.grownBy w' (some g)) (hn : NWB w g) : RdW w' w'.heap.size A l ∧ ∀ a, A = some a → 0 < l.length → a.block ≠ g := by
  have key : ∀ a, A = some a → 0 < l.length → a.block ≠ g := by
    intro a ha hl e
    obtain ⟨b', off, e1, _, hcell⟩ := h.addr hl
    rw [e1] at ha
    injection ha with ha
    subst ha
    obtain ⟨cs, t, fz, g1, g2⟩ := hn
    have := hcell 0 hl
    subst e
    rw [cell_of_row w b' _ _ _ _ g1] at this
    exact g2 _ _ this _ rfl
  refine ⟨⟨h.1, fun hl => ?_⟩, key⟩
  obtain ⟨b, off, e, hb, hc⟩ := h.2 hl
  refine ⟨b, off, e, Nat.lt_of_lt_of_le hb hg.size, fun j u hu => ?_⟩
  rw [grown_at hg _ hb (key _ e hl)]
  exact hc j u hu
theorem RdS.keepN {v : Value} {r : Rw} (h : RdS w b0 v r) (hg : w.grownBy w' (some g)) (hn : NWB w g) : RdS w' b0 v r := by
  obtain ⟨A, c, B, d, h1, h2, h3, h4, h5, h6, h7, h8⟩ := h
  have key : ∀ (X : Option Addr) (l : List Nat), RdW w w.heap.size X l → BlkIn (WB w b0) X l.length → BlkIn (WB w' b0) X l.length := by
    intro X l hr hs hl a ha
    have hne := (hr.keepN hg hn).2 a ha hl
    rcases hs hl a ha with h9 | ⟨cur, fz, h9⟩
    · exact .inl h9
    · exact .inr ⟨cur, fz, by rw [hg.block a.block (Array.getElem?_eq_some_iff.1 h9).1 (fun e => by injection e with e; exact hne e)]; exact h9⟩
  exact ⟨A, c, B, d, h1, h2, h3, h4, (h5.keepN hg hn).1, (h6.keepN hg hn).1, key A _ h5 h7, key B _ h6 h8⟩
theorem OwS.of_own (h : OwR w base A c n R) (hb : base ≤ b0) : OwS w b0 base A c n R := by
  obtain ⟨V, h1, h2⟩ := h
  exact ⟨V, fun k hk => (h1 k hk).base hb, h2⟩
theorem OwS.ra (h : OwS w b0 base A c n R) : RowA w b0 A n R := by
  obtain ⟨V, h1, h2⟩ := h
  exact ⟨V, h1, Rds.of_own h2⟩
theorem OwS.up (h : OwS w b0 base A c n R) (hb : b0 ≤ b1) : OwS w b1 base A c n R := by
  obtain ⟨V, h1, h2⟩ := h
  exact ⟨V, fun k hk => (h1 k hk).base hb, h2⟩
theorem OwS.congr (h : OwS w b0 base A c n R) (e : ∀ k, k < n → R k = U k) : OwS w b0 base A c n U := by
  obtain ⟨V, h1, h2⟩ := h
  exact ⟨V, fun k hk => e k hk ▸ h1 k hk, h2⟩
theorem OwS.frozen (h : OwS w b0 base (some ⟨g, 0, none⟩) c n R) (k : Nat) : w.frozen? ⟨g, k, none⟩ = false := by
  obtain ⟨V, h1, h2⟩ := h
  exact World.ownsRow.frozenAt h2 k
theorem OwS.lt (h : OwS w b0 base (some ⟨g, 0, none⟩) c n R) : base ≤ g ∧ g < w.heap.size := by
  obtain ⟨V, h1, h2⟩ := h
  exact World.ownsRow.lt h2 g rfl
theorem OwS.at_ (h : OwS w b0 base (some ⟨g, 0, none⟩) c n R) {k : Nat} (hk : k < n) : ∃ s A1 n1 c1 B1 m1 d1, w.cell? ⟨g, k * 3, none⟩ = some (.bool s) ∧ w.cell? ⟨g, k * 3 + 1, none⟩ = some (.slice A1 n1 c1) ∧ w.cell? ⟨g, k * 3 + 2, none⟩ = some (.slice B1 m1 d1) ∧ RdS w b0 (rv s A1 n1 c1 B1 m1 d1) (R k) := by
  obtain ⟨b, off, s, A1, n1, c1, B1, m1, d1, e, hb, h0, h1, h2, h3⟩ := h.ra.at_ hk
  injection e with e
  injection e with e1 e2 _
  subst e1 e2
  rw [Nat.zero_add] at h0 h1 h2
  exact ⟨s, A1, n1, c1, B1, m1, d1, h0, h1, h2, h3⟩
theorem OwS.nwb (h : OwS w b0 base (some ⟨g, 0, none⟩) n n R) : NWB w g := by
  obtain ⟨V, h1, h2⟩ := h
  rcases h2.2 with ⟨h, _⟩ | ⟨g', cap, cur, e, hb, hg, hle, hmax, hsz, htake⟩
  · cases h
  · injection e with e1 e2 e3
    injection e1 with e1
    injection e1 with e1
    subst e1 e3
    refine ⟨cur, _, _, hg, fun j u hu x e => ?_⟩
    subst e
    have h3 : cur.toList = cellsV n V := by rw [← htake, List.take_of_length_le (by rw [Array.length_toList, hsz]; exact Nat.le_refl _)]
    have h4 : (cellsV n V)[j]? = some (.int .u32 x) := by rw [← h3, Array.getElem?_toList]; exact hu
    have h5 := List.mem_of_getElem? h4
    simp only [cellsV, List.mem_flatMap, List.mem_range] at h5
    obtain ⟨k, hk, h5⟩ := h5
    obtain ⟨s, A1, a1, c1, B1, b1, d1, e⟩ := (h1 k hk).isR
    rw [e] at h5
    simp [c3] at h5
/-- element k is stored -/
theorem OwS.set (h : OwS w b0 base (some ⟨g, 0, none⟩) n n R) {k : Nat} (hk : k < n) {s : Bool} {A1 : Option Addr} {n1 c1 : Nat} {B1 : Option Addr} {m1 d1 : Nat} {r : Rw} (hr : RdS w b0 (rv s A1 n1 c1 B1 m1 d1) r) :
    OwS (((w.setCell ⟨g, k * 3, none⟩ (.bool s)).setCell ⟨g, k * 3 + 1, none⟩ (.slice A1 n1 c1)).setCell ⟨g, k * 3 + 2, none⟩ (.slice B1 m1 d1)) b0 base (some ⟨g, 0, none⟩) n n (upd R k r) ∧
    w.grownBy (((w.setCell ⟨g, k * 3, none⟩ (.bool s)).setCell ⟨g, k * 3 + 1, none⟩ (.slice A1 n1 c1)).setCell ⟨g, k * 3 + 2, none⟩ (.slice B1 m1 d1)) (some g) := by
  have hn := h.nwb
  obtain ⟨V, h1, h2⟩ := h
  obtain ⟨s0, t0⟩ := World.ownsRow.stored h2 (k * 3) (.bool s)
  obtain ⟨s1, t1⟩ := World.ownsRow.stored s0 (k * 3 + 1) (.slice A1 n1 c1)
  obtain ⟨s2, t2⟩ := World.ownsRow.stored s1 (k * 3 + 2) (.slice B1 m1 d1)
  have hgr := grown_trans (grown_trans t0 t1) t2
  rw [cellsV_set (fun k hk => (h1 k hk).isR) hk] at s2
  refine ⟨⟨upd V k (rv s A1 n1 c1 B1 m1 d1), fun j hj => ?_, s2⟩, hgr⟩
  by_cases e : j = k
  · subst e; rw [upd_same, upd_same]; exact hr.keepN hgr hn
  · rw [upd_ne _ _ e, upd_ne _ _ e]; exact (h1 j hj).keepN hgr hn
/-- .. and a reading elsewhere stays -/
theorem RowA.keepN (h : RowA w b0 A n R) (hg : w.grownBy w' (some g)) (hn : NWB w g) (hne : ∀ a, A = some a → 0 < n → a.block ≠ g) : RowA w' b0 A n R := by
  obtain ⟨V, h1, h2⟩ := h
  refine ⟨V, fun k hk => (h1 k hk).keepN hg hn, h2.1, fun hn0 => ?_⟩
  obtain ⟨b, off, e, hb, hc⟩ := h2.2 hn0
  refine ⟨b, off, e, Nat.lt_of_lt_of_le hb hg.size, fun j u hu => ?_⟩
  rw [grown_at hg _ hb (hne _ e hn0)]
  exact hc j u hu
theorem MatI.baseA {len : Nat → Nat} {M : Nat → Nat → Rw} (h : MatI w b0 A n len M) (hb : b0 ≤ b1) : MatI w b1 A n len M := by
  obtain ⟨Ar, cp, h1, h2, h3⟩ := h
  refine ⟨Ar, cp, h1, fun hn a ha => Nat.lt_of_lt_of_le (h2 hn a ha) hb, fun i hi => ⟨(h3 i hi).1, ?_⟩⟩
  obtain ⟨V, g1, g2, g3⟩ := (h3 i hi).2
  exact ⟨V, fun k hk => (g1 k hk).base hb, g2, fun hn a ha => Nat.lt_of_lt_of_le (g3 hn a ha) hb⟩
theorem MatI.later {len : Nat → Nat} {M : Nat → Nat → Rw} (h : MatI w w.heap.size A n len M) (hb : Below w.heap.size w w') : MatI w' w'.heap.size A n len M := (h.kp (Kp.of_below hb)).baseA hb.size
end
end Go.Proofs.YtomkdgcpmpbfhaaGreatDoor
namespace Go.Proofs.YtomkdgcpmpbfhaaGreatDoor
open Go.RowKit
set_option linter.unusedSimpArgs false
set_option linter.unusedVariables false
set_option maxRecDepth 20000
/-! ## a matrix and one more column, as the laws and the reference write it: rows of a call's own, of fractions of whatever form -/
section
variable {w w' : World} {b c n : Nat} {A : Option Addr} {len : Nat → Nat} {R : Nat → Nat → Rw}
end
theorem RowA.base {w : World} {b0 b1 n : Nat} {A : Option Addr} {R : Nat → Rw} (h : RowA w b0 A n R) (hb : b0 ≤ b1) : RowA w b1 A n R := by
  obtain ⟨V, h1, h2⟩ := h
  exact ⟨V, fun k hk => (h1 k hk).base hb, h2⟩
end Go.Proofs.YtomkdgcpmpbfhaaGreatDoor
namespace Go.Proofs.YtomkdgcpmpbfhaaGreatDoor
open Go.RowKit
set_option linter.unusedSimpArgs false
set_option linter.unusedVariables false
set_option maxRecDepth 20000
attribute [local irreducible] nv wp win plainB validR valR canR
/-! ## variables that hold a fraction -/
/-- a variable that holds a fraction -/
def VarR (g : Nat) (q : Rat) (w : World) : Prop := SumR g q w ∧ RatB w g ∧ g < w.heap.size ∧ ∀ i, w.frozen? ⟨g, i, none⟩ = false
section
variable {g g' : Nat} {q q' : Rat} {w w' : World}
theorem VarR.below (h : VarR g q w) (hb : Below w.heap.size w w') : VarR g q w' := by
  obtain ⟨⟨s, A, n, c, B, m, d, h0, h1, h2, r⟩, hB, hz, hf⟩ := h
  exact ⟨⟨s, A, n, c, B, m, d, (hb.cell (p := ⟨g, 0, none⟩) hz).trans h0, (hb.cell (p := ⟨g, 1, none⟩) hz).trans h1, (hb.cell (p := ⟨g, 2, none⟩) hz).trans h2, r.kp (Kp.of_below hb)⟩, hB.below hb hz, Nat.lt_of_lt_of_le hz hb.size, fun i => (hb.frozen (p := ⟨g, i, none⟩) hz).trans (hf i)⟩
theorem VarR.new (w : World) : VarR w.heap.size 0 (w.alloc (.cells #[.bool false, .slice none 0 0, .slice none 0 0] 50)) :=
  ⟨⟨false, none, 0, 0, none, 0, 0, (World.cell?_alloc_at _ _ _ _ rfl).trans rfl, (World.cell?_alloc_at _ _ _ _ rfl).trans rfl, (World.cell?_alloc_at _ _ _ _ rfl).trans rfl, (OwQ.zero _ 0).rs⟩, RatB.new _ _, by simp, fun i => World.frozen?_alloc_at _ _ _ _ rfl⟩
theorem VarR.put (h : VarR g q w) {s : Bool} {A B : Option Addr} {n c m d : Nat} (hv : RdS w 0 (rv s A n c B m d) (canR q')) : VarR g q' (((w.setCell ⟨g, 0, none⟩ (.bool s)).setCell ⟨g, 1, none⟩ (.slice A n c)).setCell ⟨g, 2, none⟩ (.slice B m d)) := by
  obtain ⟨⟨s1, A1, n1, c1, B1, m1, d1, h0, h1, h2, r⟩, hB, hz, hf⟩ := h
  have s9 := set3 (w := w) (g := g) (o := 0) (a := .bool s) (b := .slice A n c) (d := .slice B m d) h0 h1 h2
  exact ⟨⟨s, A, n, c, B, m, d, s9.1, s9.2.1, s9.2.2, hv.kp (Kp.store3 hB (Nat.zero_le _) _ _ _)⟩, ((hB.set _ _).set _ _).set _ _, by simpa using hz, fun i => by rw [World.frozen?_setCell, World.frozen?_setCell, World.frozen?_setCell]; exact hf i⟩
end
theorem below_set3 {B g : Nat} {w w' : World} (h : Below B w w') (hg : B ≤ g) (a b d : Value) : Below B w (((w'.setCell ⟨g, 0, none⟩ a).setCell ⟨g, 1, none⟩ b).setCell ⟨g, 2, none⟩ d) :=
  ((h.setCell hg _).setCell hg _).setCell hg _
end Go.Proofs.YtomkdgcpmpbfhaaGreatDoor
