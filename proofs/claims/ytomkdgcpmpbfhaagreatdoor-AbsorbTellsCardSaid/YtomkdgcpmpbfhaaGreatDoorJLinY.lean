/- Contracts of functions and lemmas, used by the proofs of the given statements. No condition beyond those that each lemma names. -/
import Derived.Test.YtomkdgcpmpbfhaaGreatDoorLinX
import Derived.Test.YtomkdgcpmpbfhaaGreatDoorJBase
import Derived.Test.YtomkdgcpmpbfhaaGreatDoorJLinF
import Derived.Test.YtomkdgcpmpbfhaaGreatDoorLinMk
import Derived.Test.YtomkdgcpmpbfhaaGreatDoorTrL2
import Derived.Test.YtomkdgcpmpbfhaaGreatDoorJTextC
import Derived.Test.YtomkdgcpmpbfhaaGreatDoorBaseEq
namespace Go.Proofs.YtomkdgcpmpbfhaaGreatDoor
set_option linter.unusedSimpArgs false
set_option linter.unusedVariables false
/-! ## the reduced form of a matrix and one more column (plain) -/
theorem findF_congr {M N : Mf} {k : Nat} : ∀ {f a : Nat}, (∀ i, M i k = N i k) → findF M k f a = findF N k f a
  | 0, a, _ => rfl
  | f + 1, a, h => by unfold findF; rw [h a, findF_congr h]
theorem findR_congr {M N : Mf} {n k a : Nat} (h : ∀ i, M i k = N i k) : findR n M k a = findR n N k a := findF_congr h
theorem gj_cols {n c : Nat} {M N : Mf} (h : ∀ i j, j < c → M i j = N i j) : ∀ k, k ≤ c → (gj n M k).2 = (gj n N k).2 ∧ ∀ i j, j < c → (gj n M k).1 i j = (gj n N k).1 i j
  | 0, _ => ⟨rfl, h⟩
  | k + 1, hk => by
    obtain ⟨h1, h2⟩ := gj_cols h k (by omega)
    have hf : findR n (gj n M k).1 k (gj n M k).2.length = findR n (gj n N k).1 k (gj n N k).2.length := by rw [h1]; exact findR_congr fun i => h2 i k (by omega)
    rw [gj_succ, gj_succ]
    unfold gjS
    rw [hf, h1]
    split
    · refine ⟨rfl, fun i j hj => ?_⟩
      have hs : ∀ i j, j < c → swp (gj n M k).1 (gj n N k).2.length (findR n (gj n N k).1 k (gj n N k).2.length) i j = swp (gj n N k).1 (gj n N k).2.length (findR n (gj n N k).1 k (gj n N k).2.length) i j := by
        intro i j hj
        unfold swp
        split
        · exact h2 _ j hj
        · split
          · exact h2 _ j hj
          · exact h2 _ j hj
      show elim _ _ _ i j = elim _ _ _ i j
      unfold elim
      rw [hs _ j hj, hs _ k (by omega), hs i j hj, hs i k (by omega)]
    · exact ⟨h1, h2⟩
theorem gj_wide {n c : Nat} {M : Mf} {y : Nat → Rat} : (gj n (wide M y c) c).2 = (gj n M c).2 :=
  (gj_cols (c := c) (fun i j hj => by unfold wide; rw [if_pos hj]) c (Nat.le_refl _)).1
theorem gj_pre {n : Nat} {M : Mf} {k : Nat} : ∀ {c}, k ≤ c → ∃ t, (gj n M c).2 = (gj n M k).2 ++ t ∧ ∀ x ∈ t, k ≤ x
  | 0, h => ⟨[], by obtain rfl : k = 0 := by omega
                    simp, by simp⟩
  | c + 1, h => by
    by_cases e : k = c + 1
    · subst e; exact ⟨[], by simp, by simp⟩
    · obtain ⟨t, ht, hx⟩ := gj_pre (n := n) (M := M) (k := k) (c := c) (by omega)
      rcases gj_step n M c with ⟨h1, _⟩ | ⟨r, _, _, _, _, h5, _, _⟩
      · exact ⟨t, by rw [h1, ht], hx⟩
      · refine ⟨t ++ [c], by rw [h5]; show _ ++ _ = _; rw [ht, List.append_assoc], fun x hm => ?_⟩
        rcases List.mem_append.1 hm with h6 | h6
        · exact hx x h6
        · have := List.mem_singleton.1 h6; omega
theorem fre_count {n c : Nat} {M : Mf} : ∀ k, k ≤ c → (fre (gj n M c).2 k).length + (gj n M k).2.length = k
  | 0, _ => by show (fre (gj n M c).2 0).length + ([] : List Nat).length = 0; rfl
  | k + 1, h => by
    have ih := fre_count (n := n) (c := c) (M := M) k (by omega)
    obtain ⟨t, ht, hx⟩ := gj_pre (n := n) (M := M) (k := k + 1) (c := c) h
    rcases gj_step n M k with ⟨h1, _⟩ | ⟨r, _, _, _, _, h5, _, _⟩
    · have hk : k ∉ (gj n M c).2 := by
        rw [ht, h1, List.mem_append]
        rintro (h2 | h2)
        · have := gj_lt k _ h2; omega
        · have := hx _ h2; omega
      rw [fre_out hk, h1, List.length_append, List.length_singleton]
      omega
    · have hk : k ∈ (gj n M c).2 := by
        rw [ht, h5]
        simp
      rw [fre_in hk, h5]
      show _ + ((gj n M k).2 ++ [k]).length = _
      rw [List.length_append, List.length_singleton]
      omega
theorem kernel_count (n c : Nat) (M : Mf) : (fre (gj n M c).2 c).length + (gj n M c).2.length = c := fre_count c (Nat.le_refl _)
/-- the rank grows by one or stays -/
theorem wide_rank (n c : Nat) (M : Mf) (y : Nat → Rat) : ((gj n (wide M y c) (c + 1)).2 = (gj n M c).2 ++ [c] ∧ (gj n (wide M y c) (c + 1)).2.getLast? = some c) ∨ ((gj n (wide M y c) (c + 1)).2 = (gj n M c).2 ∧ (gj n (wide M y c) (c + 1)).2.getLast? ≠ some c) := by
  have hw := gj_wide (n := n) (M := M) (y := y) (c := c)
  rcases gj_step n (wide M y c) c with ⟨h1, _⟩ | ⟨r, _, _, _, _, h5, _, _⟩
  · refine .inr ⟨by rw [h1, hw], fun e => ?_⟩
    rw [h1, hw] at e
    have := gj_lt c _ (List.mem_of_getLast? e)
    omega
  · refine .inl ⟨by rw [h5]; show _ ++ _ = _; rw [hw], ?_⟩
    rw [h5]
    simp
/-- the solution solves -/
theorem solve_eq {n c : Nat} {M : Mf} {y : Nat → Rat} (h : (gj n (wide M y c) (c + 1)).2.length = (gj n M c).2.length) (hc : (gj n M c).2.length = c) : ∀ i, i < n → dotS (M i) (fun t => (gj n (wide M y c) (c + 1)).1 t c) c = y i := by
  intro i hi
  have h1 := gj_rows (n := n) (c := c + 1) (M := wide M y c) i hi c (by omega)
  have e : wide M y c i c = y i := by unfold wide; rw [if_neg (by omega)]
  have hp : (gj n (wide M y c) (c + 1)).2 = (gj n M c).2 := by
    rcases wide_rank n c M y with ⟨h2, _⟩ | ⟨h2, _⟩
    · rw [h2] at h; simp at h
    · exact h2
  rw [e, h, hc, hp] at h1
  rw [h1]
  refine dotS_congr (fun t ht => ?_) (fun _ _ => rfl)
  rw [gj_full_pv hc t ht]
  unfold wide
  rw [if_pos ht]
end Go.Proofs.YtomkdgcpmpbfhaaGreatDoor
namespace Go.Proofs.YtomkdgcpmpbfhaaGreatDoor
set_option linter.unusedSimpArgs false
set_option linter.unusedVariables false
/-! ## sums over moves (plain) -/
theorem sumN_add (f g : Nat → Rat) : ∀ n, sumN (fun k => f k + g k) n = sumN f n + sumN g n
  | 0 => by unfold sumN; grind
  | n + 1 => by rw [sumN, sumN, sumN, sumN_add f g n]; grind
theorem sumN_sub (f g : Nat → Rat) : ∀ n, sumN (fun k => f k - g k) n = sumN f n - sumN g n
  | 0 => by unfold sumN; grind
  | n + 1 => by rw [sumN, sumN, sumN, sumN_sub f g n]; grind
theorem sumN_smul (a : Rat) (f : Nat → Rat) : ∀ n, sumN (fun k => a * f k) n = a * sumN f n
  | 0 => by unfold sumN; grind
  | n + 1 => by rw [sumN, sumN, sumN_smul a f n]; grind
theorem sumN_nil {f : Nat → Rat} : ∀ {n}, (∀ k, k < n → f k = 0) → sumN f n = 0
  | 0, _ => rfl
  | n + 1, h => by rw [sumN, sumN_nil fun k hk => h k (by omega), h n (by omega)]; grind
theorem sumN_swap (a : Nat → Nat → Rat) (n : Nat) : ∀ m, sumN (fun j => sumN (fun k => a j k) m) n = sumN (fun k => sumN (fun j => a j k) n) m
  | 0 => by show sumN (fun _ => 0) n = 0; exact sumN_nil fun _ _ => rfl
  | m + 1 => by
    show sumN (fun j => sumN (fun k => a j k) m + a j m) n = _
    rw [sumN_add, sumN_swap a n m, sumN]
theorem sumN_pick {f : Nat → Rat} {a : Nat} : ∀ {n}, sumN (fun j => if j = a then f j else 0) n = if a < n then f a else 0
  | 0 => by simp [sumN]
  | n + 1 => by
    rw [sumN, sumN_pick]
    by_cases e : n = a
    · subst e
      rw [if_neg (by omega), if_pos rfl, if_pos (by omega)]; grind
    · rw [if_neg e]
      by_cases h : a < n
      · rw [if_pos h, if_pos (by omega)]; grind
      · rw [if_neg h, if_neg (by omega)]; grind
theorem sumN_le0 {f : Nat → Rat} : ∀ {n}, (∀ k, k < n → f k ≤ 0) → sumN f n ≤ 0
  | 0, _ => Rat.le_refl
  | n + 1, h => by
    have ih := sumN_le0 (f := f) (n := n) fun k hk => h k (by omega)
    have h1 := h n (by omega)
    rw [sumN]
    clear h
    grind
theorem sumN_ge0 {f : Nat → Rat} : ∀ {n}, (∀ k, k < n → 0 ≤ f k) → 0 ≤ sumN f n
  | 0, _ => Rat.le_refl
  | n + 1, h => by
    have ih := sumN_ge0 (f := f) (n := n) fun k hk => h k (by omega)
    have := h n (by omega)
    rw [sumN]; grind
theorem sumN_eq0 {f : Nat → Rat} : ∀ {n}, (∀ k, k < n → f k ≤ 0) → 0 ≤ sumN f n → ∀ k, k < n → f k = 0
  | n + 1, h, h0, k, hk => by
    have ih := sumN_le0 (f := f) (n := n) fun k hk => h k (by omega)
    have := h n (by omega)
    rw [sumN] at h0
    by_cases e : k = n
    · subst e; grind
    · have h2 : 0 ≤ sumN f n := by grind
      exact sumN_eq0 (n := n) (fun k hk => h k (by omega)) h2 k (by omega)
theorem exists_min (x : Nat → Rat) : ∀ n, 0 < n → ∃ i, i < n ∧ ∀ j, j < n → x i ≤ x j
  | n + 1, _ => by
    by_cases hn : n = 0
    · subst hn
      exact ⟨0, by omega, fun j hj => by rw [show j = 0 by omega]; exact Rat.le_refl⟩
    · obtain ⟨i, hi, h⟩ := exists_min x n (by omega)
      by_cases hx : x i ≤ x n
      · refine ⟨i, by omega, fun j hj => ?_⟩
        by_cases e : j = n
        · rw [e]; exact hx
        · exact h j (by omega)
      · refine ⟨n, by omega, fun j hj => ?_⟩
        by_cases e : j = n
        · rw [e]; exact Rat.le_refl
        · have := h j (by omega)
          grind
theorem dotS_bump {f g z : Nat → Rat} {a : Nat} {x : Rat} (e : ∀ j, g j = f j + if j = a then x else 0) : ∀ {n}, dotS g z n = dotS f z n + if a < n then x * z a else 0
  | 0 => by unfold dotS; simp; grind
  | n + 1 => by
    rw [dotS, dotS, dotS_bump e, e n]
    by_cases h : n = a
    · subst h
      rw [if_neg (by omega), if_pos rfl, if_pos (by omega)]; grind
    · rw [if_neg h]
      by_cases h : a < n
      · rw [if_pos h, if_pos (by omega)]; grind
      · rw [if_neg h, if_neg (by omega)]; grind
/-! ## the system of the live states -/
section
variable (l : Nat → Bool) (F T : Nat → Nat) (q : Nat → Rat) (back : Bool)
/-- what a move adds to the equation of a state -/
def eqT (z : Nat → Rat) (i k : Nat) : Rat :=
  (if l (F k) = true ∧ i = F k then q k * z (F k) else 0) - (if (l (F k) = true ∧ l (T k) = true) ∧ i = (if back then T k else F k) then q k * z (if back then F k else T k) else 0)
/-- the left side of the equation of a state -/
def eqS (nm : Nat) (z : Nat → Rat) (i : Nat) : Rat := sumN (eqT l F T q back z i) nm
/-- the matrix after k moves -/
def sysK : Nat → Mf
  | 0 => fun _ _ => 0
  | k + 1 => fun i j => sysK k i j + (if l (F k) = true ∧ i = F k ∧ j = F k then q k else 0) - (if (l (F k) = true ∧ l (T k) = true) ∧ i = (if back then T k else F k) ∧ j = (if back then F k else T k) then q k else 0)
end
structure AbS (nm n : Nat) (F T : Nat → Nat) (q : Nat → Rat) (D l : Nat → Bool) : Prop where
  mv : ∀ k, k < nm → F k < n ∧ T k < n ∧ F k ≠ T k ∧ 0 < q k
  ln : ∀ s, l s = true → s < n
  ld : ∀ s, l s = true → D s = false
  lc : ∀ k, k < nm → l (F k) = true → D (T k) = false → l (T k) = true
  le : ∀ P : Nat → Prop, (∀ s, s < n → D s = true → P s) → (∀ k, k < nm → P (T k) → P (F k)) → ∀ s, l s = true → P s
section
variable {l D : Nat → Bool} {F T : Nat → Nat} {q : Nat → Rat} {back : Bool} {nm n i : Nat} {z y : Nat → Rat}
theorem dot_sys (hF : ∀ k, k < nm → F k < n ∧ T k < n) : ∀ {k}, k ≤ nm → dotS (sysK l F T q back k i) z n = sumN (eqT l F T q back z i) k
  | 0, _ => by
    show dotS (fun _ => 0) z n = 0
    exact dotS_zero fun k _ => by grind
  | k + 1, hk => by
    have ih := dot_sys hF (k := k) (by omega)
    obtain ⟨h1, h2⟩ := hF k (by omega)
    have hb : (if back then F k else T k) < n := by cases back <;> simp <;> assumption
    rw [sumN, ← ih, dotS_bump (f := fun j => sysK l F T q back k i j + if l (F k) = true ∧ i = F k ∧ j = F k then q k else 0) (a := if back then F k else T k) (x := - if (l (F k) = true ∧ l (T k) = true) ∧ i = (if back then T k else F k) then q k else 0) ?_, if_pos hb,
      dotS_bump (f := sysK l F T q back k i) (a := F k) (x := if l (F k) = true ∧ i = F k then q k else 0) ?_, if_pos h1]
    · unfold eqT
      split <;> split <;> grind
    · intro j
      by_cases e : j = F k
      · subst e
        by_cases e2 : l (F k) = true ∧ i = F k
        · rw [if_pos ⟨e2.1, e2.2, rfl⟩, if_pos rfl, if_pos e2]
        · rw [if_neg (fun h => e2 ⟨h.1, h.2.1⟩), if_pos rfl, if_neg e2]
      · rw [if_neg (fun h => e h.2.2), if_neg e]
    · intro j
      show _ - _ = _
      by_cases e : j = (if back then F k else T k)
      · by_cases e2 : (l (F k) = true ∧ l (T k) = true) ∧ i = (if back then T k else F k)
        · rw [if_pos e, if_pos e2, if_pos (show (l (F k) = true ∧ l (T k) = true) ∧ i = (if back then T k else F k) ∧ j = (if back then F k else T k) from ⟨e2.1, e2.2, e⟩)]; grind
        · rw [if_pos e, if_neg e2, if_neg (show ¬ ((l (F k) = true ∧ l (T k) = true) ∧ i = (if back then T k else F k) ∧ j = (if back then F k else T k)) from fun h => e2 ⟨h.1, h.2.1⟩)]; grind
      · rw [if_neg e, if_neg (show ¬ ((l (F k) = true ∧ l (T k) = true) ∧ i = (if back then T k else F k) ∧ j = (if back then F k else T k)) from fun h => e h.2.2)]; grind
theorem eqT_congr {k : Nat} (h : ∀ s, l s = true → z s = y s) : eqT l F T q back z i k = eqT l F T q back y i k := by
  unfold eqT
  have h1 : (if l (F k) = true ∧ i = F k then q k * z (F k) else 0) = if l (F k) = true ∧ i = F k then q k * y (F k) else 0 := by
    split
    · rename_i e; rw [h _ e.1]
    · rfl
  have h2 : (if (l (F k) = true ∧ l (T k) = true) ∧ i = (if back then T k else F k) then q k * z (if back then F k else T k) else 0) = if (l (F k) = true ∧ l (T k) = true) ∧ i = (if back then T k else F k) then q k * y (if back then F k else T k) else 0 := by
    by_cases e : (l (F k) = true ∧ l (T k) = true) ∧ i = (if back then T k else F k)
    · have hb : l (if back then F k else T k) = true := by
        by_cases hb : back = true
        · rw [if_pos hb]; exact e.1.1
        · rw [if_neg hb]; exact e.1.2
      rw [if_pos e, if_pos e, h _ hb]
    · rw [if_neg e, if_neg e]
  rw [h1, h2]
theorem eqS_congr (h : ∀ s, l s = true → z s = y s) : eqS l F T q back nm z i = eqS l F T q back nm y i := sumN_congr fun k _ => eqT_congr h
theorem eqT_lin {k : Nat} (a : Rat) : eqT l F T q back (fun s => z s + a * y s) i k = eqT l F T q back z i k + a * eqT l F T q back y i k := by
  unfold eqT
  split <;> split <;> grind
theorem eqS_lin (a : Rat) : eqS l F T q back nm (fun s => z s + a * y s) i = eqS l F T q back nm z i + a * eqS l F T q back nm y i := by
  unfold eqS
  rw [← sumN_smul, ← sumN_add]
  exact sumN_congr fun k _ => eqT_lin a
theorem AbS.times_nonneg (h : AbS nm n F T q D l) (hz : ∀ s, l s = false → z s = 0) (he : ∀ i, l i = true → 0 ≤ eqS l F T q false nm z i) : ∀ s, 0 ≤ z s := by
  intro s0
  apply Classical.byContradiction
  intro h0
  have hs0 : l s0 = true := by
    cases e : l s0
    · exact absurd (by rw [hz _ e]; exact Rat.le_refl) h0
    · rfl
  have hn0 := h.ln _ hs0
  obtain ⟨i, hi, hm⟩ := exists_min z n (by omega)
  have hneg : z i < 0 := by
    have := hm s0 hn0
    grind
  have live : ∀ s, z s = z i → l s = true := fun s e => by
    cases e2 : l s
    · have := hz _ e2; grind
    · rfl
  refine h.le (fun s => z s ≠ z i) (fun s hs hd e => ?_) (fun k hk hT hF => ?_) i (live i rfl) rfl
  · have := h.ld _ (live s e)
    rw [hd] at this
    cases this
  · have hl := live _ hF
    have hq := (h.mv k hk).2.2.2
    have hz0 := he _ hl
    have hle : ∀ j, j < nm → eqT l F T q false z (F k) j ≤ 0 := by
      intro j hj
      obtain ⟨m1, m2, m3, m4⟩ := h.mv j hj
      unfold eqT
      simp only [Bool.false_eq_true, if_false]
      by_cases e : F k = F j
      · rw [if_pos ⟨by rw [← e]; exact hl, e⟩]
        rw [e] at hF
        rw [hF]
        have h1 : q j * z i ≤ 0 := by
          have := Rat.mul_nonneg (Rat.le_of_lt m4) (show 0 ≤ -z i by grind)
          grind
        split
        · have h2 := hm _ m2
          have := Rat.mul_nonneg (Rat.le_of_lt m4) (show 0 ≤ z (T j) - z i by grind)
          grind
        · grind
      · rw [if_neg (fun h => e h.2), if_neg (fun h => e h.2)]
        grind
    have hk0 := sumN_eq0 hle hz0 k hk
    unfold eqT at hk0
    simp only [Bool.false_eq_true, if_false] at hk0
    rw [if_pos ⟨hl, trivial⟩, hF] at hk0
    split at hk0
    · have : q k * (z i - z (T k)) = 0 := by grind
      rcases Rat.mul_eq_zero.1 this with h1 | h1
      · grind
      · exact hT (by grind)
    · have : q k * z i = 0 := by grind
      rcases Rat.mul_eq_zero.1 this with h1 | h1 <;> grind
theorem AbS.visits_nonneg (h : AbS nm n F T q D l) (hz : ∀ s, l s = false → z s = 0) (he : ∀ i, l i = true → 0 ≤ eqS l F T q true nm z i) : ∀ s, 0 ≤ z s := by
  let N : Nat → Prop := fun s => l s = true ∧ z s < 0
  have hsum : sumN (fun k => (if N (F k) then q k * z (F k) else 0) - (if l (F k) = true ∧ N (T k) then q k * z (F k) else 0)) nm = sumN (fun j => if N j then eqS l F T q true nm z j else 0) n := by
    have e1 : sumN (fun j => if N j then eqS l F T q true nm z j else 0) n = sumN (fun j => sumN (fun k => if N j then eqT l F T q true z j k else 0) nm) n := by
      refine sumN_congr fun j _ => ?_
      split
      · rfl
      · exact (sumN_nil fun _ _ => rfl).symm
    rw [e1, sumN_swap]
    refine sumN_congr fun k hk => ?_
    obtain ⟨m1, m2, m3, m4⟩ := h.mv k hk
    have e2 : ∀ j, (if N j then eqT l F T q true z j k else 0) = (if j = F k then (if N j then q k * z (F k) else 0) else 0) - (if j = T k then (if l (F k) = true ∧ N j then q k * z (F k) else 0) else 0) := by
      intro j
      unfold eqT
      simp only [if_true]
      by_cases hN : N j
      · by_cases e : j = F k
        · have e3 : ¬ j = T k := fun h => m3 (e.symm.trans h)
          rw [if_pos hN, if_pos hN, if_pos e, if_neg e3, if_pos (show l (F k) = true ∧ j = F k from ⟨e ▸ hN.1, e⟩), if_neg (show ¬ ((l (F k) = true ∧ l (T k) = true) ∧ j = T k) from fun h => e3 h.2)]
        · rw [if_pos hN, if_neg e, if_neg (show ¬ (l (F k) = true ∧ j = F k) from fun h => e h.2)]
          by_cases e3 : j = T k
          · by_cases e4 : l (F k) = true
            · rw [if_pos e3, if_pos (show (l (F k) = true ∧ l (T k) = true) ∧ j = T k from ⟨⟨e4, e3 ▸ hN.1⟩, e3⟩), if_pos (show l (F k) = true ∧ N j from ⟨e4, hN⟩)]
            · rw [if_pos e3, if_neg (show ¬ ((l (F k) = true ∧ l (T k) = true) ∧ j = T k) from fun h => e4 h.1.1), if_neg (show ¬ (l (F k) = true ∧ N j) from fun h => e4 h.1)]
          · rw [if_neg e3, if_neg (show ¬ ((l (F k) = true ∧ l (T k) = true) ∧ j = T k) from fun h => e3 h.2)]
      · have h1 : (if j = F k then (if N j then q k * z (F k) else 0) else 0) = (0 : Rat) := by rw [if_neg hN]; split <;> rfl
        have h2 : (if j = T k then (if l (F k) = true ∧ N j then q k * z (F k) else 0) else 0) = (0 : Rat) := by rw [if_neg (show ¬ (l (F k) = true ∧ N j) from fun h => hN h.2)]; split <;> rfl
        rw [if_neg hN, h1, h2]
        grind
    rw [sumN_congr fun j _ => e2 j, sumN_sub, sumN_pick, sumN_pick, if_pos m1, if_pos m2]
  have hge : 0 ≤ sumN (fun j => if N j then eqS l F T q true nm z j else 0) n := sumN_ge0 fun j _ => by
    show 0 ≤ if N j then _ else _
    split
    · rename_i hN; exact he j hN.1
    · exact Rat.le_refl
  rw [← hsum] at hge
  have hle : ∀ k, k < nm → ((if N (F k) then q k * z (F k) else 0) - (if l (F k) = true ∧ N (T k) then q k * z (F k) else 0)) ≤ 0 := by
    intro k hk
    obtain ⟨m1, m2, m3, m4⟩ := h.mv k hk
    by_cases hN : N (F k)
    · have : 0 ≤ q k * -z (F k) := Rat.mul_nonneg (Rat.le_of_lt m4) (by have := hN.2; grind)
      rw [if_pos hN]
      split <;> grind
    · rw [if_neg hN]
      split
      · rename_i e
        have h1 : 0 ≤ z (F k) := by
          apply Classical.byContradiction
          intro h2
          exact hN ⟨e.1, by grind⟩
        have := Rat.mul_nonneg (Rat.le_of_lt m4) h1
        grind
      · grind
  have hzero := sumN_eq0 hle hge
  have hno : ∀ s, l s = true → ¬ N s := h.le (fun s => ¬ N s) (fun s hs hd hN => by
      have := h.ld s hN.1
      rw [hd] at this; cases this) (fun k hk hT hF => by
      have h1 := hzero k hk
      obtain ⟨m1, m2, m3, m4⟩ := h.mv k hk
      rw [if_pos hF, if_neg (fun h => hT h.2)] at h1
      have h2 : q k * z (F k) = 0 := by grind
      have h3 := hF.2
      rcases Rat.mul_eq_zero.1 h2 with h4 | h4 <;> grind)
  intro s
  cases e : l s
  · rw [hz s e]; exact Rat.le_refl
  · apply Classical.byContradiction
    intro h0
    exact hno s e ⟨e, by grind⟩
theorem AbS.nonneg (h : AbS nm n F T q D l) (hz : ∀ s, l s = false → z s = 0) (he : ∀ i, l i = true → 0 ≤ eqS l F T q back nm z i) : ∀ s, 0 ≤ z s := by
  cases back
  · exact h.times_nonneg hz he
  · exact h.visits_nonneg hz he
/-- no two solutions -/
theorem AbS.unique (h : AbS nm n F T q D l) (hz : ∀ s, l s = false → z s = y s) (he : ∀ i, l i = true → eqS l F T q back nm z i = eqS l F T q back nm y i) : ∀ s, z s = y s := by
  have h1 := h.nonneg (back := back) (z := fun s => z s + (-1) * y s) (fun s hs => by have := hz s hs; grind) (fun i hi => by have := he i hi; rw [eqS_lin]; grind)
  have h2 := h.nonneg (back := back) (z := fun s => y s + (-1) * z s) (fun s hs => by have := hz s hs; grind) (fun i hi => by have := he i hi; rw [eqS_lin]; grind)
  intro s
  have h3 := h1 s
  have h4 := h2 s
  grind
end
/-! ## full rank -/
theorem rank_full {n c : Nat} {M : Mf} (h : ∀ x : Nat → Rat, (∀ i, i < n → dotS (M i) x c = 0) → ∀ j, j < c → x j = 0) : (gj n M c).2.length = c := by
  apply Classical.byContradiction
  intro hne
  have h1 := kernel_count n c M
  have h2 : 0 < (fre (gj n M c).2 c).length := by
    have := (gj_len_le (n := n) (M := M) c).1
    omega
  obtain ⟨k, hk⟩ : ∃ k, k ∈ fre (gj n M c).2 c := ⟨_, List.getElem_mem h2⟩
  obtain ⟨hk1, hk2⟩ := fre_mem.1 hk
  have h3 := h _ (fun i hi => kx_zero hk1 hk2 i hi) k hk1
  rw [kx_own hk2 _ (Nat.le_refl _)] at h3
  exact absurd h3 (by decide)
/-- a square matrix of full rank: there is a solution, and it is one -/
theorem solve_full {n : Nat} {M : Mf} {y : Nat → Rat} (h : (gj n M n).2.length = n) : codeS n n (wide M y n) = 0 ∧ ∀ i, i < n → dotS (M i) (fun t => (gj n (wide M y n) (n + 1)).1 t n) n = y i := by
  have hw : (gj n (wide M y n) (n + 1)).2 = (gj n M n).2 ∧ (gj n (wide M y n) (n + 1)).2.getLast? ≠ some n := by
    rcases wide_rank n n M y with ⟨h1, h2⟩ | h1
    · have := (gj_len_le (n := n) (M := wide M y n) (n + 1)).2
      rw [h1, List.length_append] at this
      simp at this
      omega
    · exact h1
  exact ⟨codeS_0 hw.2 (by rw [hw.1]; omega), solve_eq (by rw [hw.1]) h⟩
end Go.Proofs.YtomkdgcpmpbfhaaGreatDoor
namespace Go.Proofs.YtomkdgcpmpbfhaaGreatDoor
set_option linter.unusedSimpArgs false
set_option linter.unusedVariables false
/-! ## the solution, by the whole matrix and by the live states alone (plain) -/
theorem cntB_ix {B : Nat → Bool} {t : Nat} : ∀ {n : Nat}, t < cntB B n → cntB B (ixB B n t) = t
  | 0, h => by unfold cntB kept at h; simp at h
  | n + 1, h => by
    cases hb : B n
    · rw [cntB_no hb] at h
      rw [ixB_stay (B := B) (i := t) (n := n + 1) (k := n) (by omega) h]
      exact cntB_ix h
    · rw [cntB_yes hb] at h
      by_cases e : t = cntB B n
      · subst e
        rw [ixB_new (by omega) hb]
      · rw [ixB_stay (B := B) (i := t) (n := n + 1) (k := n) (by omega) (by omega)]
        exact cntB_ix (by omega)
theorem ixB_cnt {B : Nat → Bool} {s n : Nat} (hs : s < n) (h : B s = true) : cntB B s < cntB B n ∧ ixB B n (cntB B s) = s := by
  refine ⟨?_, ixB_new hs h⟩
  have := cntB_mono (B := B) (k := s + 1) (n := n) (by omega)
  rw [cntB_yes h] at this
  omega
/-- a list over the live states as one over all -/
def extB (l : Nat → Bool) (x : Nat → Rat) : Nat → Rat := fun s => if l s then x (cntB l s) else 0
def fullA (l : Nat → Bool) (M : Mf) : Mf := fun i j => if l i then M i j else if j = i then 1 else 0
def onL (l : Nat → Bool) (b : Nat → Rat) : Nat → Rat := fun i => if l i then b i else 0
theorem dotS_kept {l : Nat → Bool} {f x : Nat → Rat} {n : Nat} : ∀ {k}, k ≤ n → dotS (fun t => f (ixB l n t)) x (cntB l k) = dotS f (extB l x) k
  | 0, _ => rfl
  | k + 1, hk => by
    have ih := dotS_kept (l := l) (f := f) (x := x) (n := n) (k := k) (by omega)
    cases hb : l k
    · rw [cntB_no hb, dotS, ih]
      unfold extB
      simp [hb]
      grind
    · rw [cntB_yes hb, dotS, dotS, ih, ixB_new (by omega) hb]
      unfold extB
      simp [hb]
section
variable {l D : Nat → Bool} {F T : Nat → Nat} {q : Nat → Rat} {nm n i : Nat} {z y : Nat → Rat} (back : Bool)
theorem eqS_zero : eqS l F T q back nm (fun _ => 0) i = 0 := sumN_nil fun k _ => by
  unfold eqT
  split <;> split <;> grind
/-- the solution -/
def solB (l : Nat → Bool) (F T : Nat → Nat) (q : Nat → Rat) (nm n : Nat) (b : Nat → Rat) : Nat → Rat := fun s => (gj n (wide (fullA l (sysK l F T q back nm)) (onL l b) n) (n + 1)).1 s n
theorem AbS.full_rank (h : AbS nm n F T q D l) : (gj n (fullA l (sysK l F T q back nm)) n).2.length = n := by
  refine rank_full fun x hx => ?_
  have hF : ∀ k, k < nm → F k < n ∧ T k < n := fun k hk => ⟨(h.mv k hk).1, (h.mv k hk).2.1⟩
  have h0 : ∀ s, (if l s then x s else 0) = (0 : Rat) := h.unique (back := back) (z := fun s => if l s then x s else 0) (y := fun _ => 0) (fun s hs => by simp [hs]) fun i hi => by
    have h1 := hx i (h.ln i hi)
    have e : fullA l (sysK l F T q back nm) i = sysK l F T q back nm i := by funext j; unfold fullA; rw [if_pos hi]
    rw [e, dot_sys hF (Nat.le_refl _)] at h1
    rw [eqS_zero, ← h1]
    exact eqS_congr fun s hs => by simp [hs]
  intro j hj
  cases hl : l j
  · have h1 := hx j hj
    have e : fullA l (sysK l F T q back nm) j = fun s => if s = j then 1 else 0 := by funext s; unfold fullA; rw [hl]; simp
    rw [e, dotS_one, if_pos hj] at h1
    exact h1
  · have := h0 j
    simpa [hl] using this
theorem AbS.full (h : AbS nm n F T q D l) (b : Nat → Rat) : codeS n n (wide (fullA l (sysK l F T q back nm)) (onL l b) n) = 0 ∧ (∀ s, s < n → l s = false → solB back l F T q nm n b s = 0) ∧ ∀ s, l s = true → eqS l F T q back nm (solB back l F T q nm n b) s = b s := by
  obtain ⟨h1, h2⟩ := solve_full (y := onL l b) (h.full_rank back)
  have hF : ∀ k, k < nm → F k < n ∧ T k < n := fun k hk => ⟨(h.mv k hk).1, (h.mv k hk).2.1⟩
  refine ⟨h1, fun s hs hl => ?_, fun s hl => ?_⟩
  · have := h2 s hs
    have e : fullA l (sysK l F T q back nm) s = fun j => if j = s then 1 else 0 := by funext j; unfold fullA; rw [hl]; simp
    rw [e, dotS_one, if_pos hs] at this
    unfold solB
    rw [this]
    unfold onL; rw [hl]; simp
  · have := h2 s (h.ln s hl)
    have e : fullA l (sysK l F T q back nm) s = sysK l F T q back nm s := by funext j; unfold fullA; rw [if_pos hl]
    rw [e, dot_sys hF (Nat.le_refl _)] at this
    have e2 : onL l b s = b s := by unfold onL; rw [if_pos hl]
    rw [e2] at this
    exact this
/-- whoever solves the equations has it -/
theorem AbS.sol_eq (h : AbS nm n F T q D l) {b : Nat → Rat} (hz : ∀ s, s < n → l s = false → z s = 0) (he : ∀ i, l i = true → eqS l F T q back nm z i = b i) : ∀ s, s < n → z s = solB back l F T q nm n b s := by
  obtain ⟨-, h2, h3⟩ := h.full back b
  have := h.unique (back := back) (z := fun s => if l s then z s else 0) (y := fun s => if l s then solB back l F T q nm n b s else 0) (fun s hs => by simp [hs]) fun i hi => by
    have e1 : eqS l F T q back nm (fun s => if l s then z s else 0) i = eqS l F T q back nm z i := eqS_congr fun s hs => by simp [hs]
    have e2 : eqS l F T q back nm (fun s => if l s then solB back l F T q nm n b s else 0) i = eqS l F T q back nm (solB back l F T q nm n b) i := eqS_congr fun s hs => by simp [hs]
    rw [e1, e2, he i hi, h3 i hi]
  intro s hs
  cases hl : l s
  · rw [hz s hs hl, h2 s hs hl]
  · have h4 := this s
    simpa [hl] using h4
theorem AbS.part_rank (h : AbS nm n F T q D l) : (gj (cntB l n) (fun k t => sysK l F T q back nm (ixB l n k) (ixB l n t)) (cntB l n)).2.length = cntB l n := by
  refine rank_full fun x hx => ?_
  have hF : ∀ k, k < nm → F k < n ∧ T k < n := fun k hk => ⟨(h.mv k hk).1, (h.mv k hk).2.1⟩
  have h0 : ∀ s, extB l x s = 0 := h.unique (back := back) (y := fun _ => 0) (fun s hs => by unfold extB; simp [hs]) fun i hi => by
    obtain ⟨h1, h2⟩ := ixB_cnt (h.ln i hi) hi
    have h3 := hx _ h1
    rw [dotS_kept (Nat.le_refl _), h2, dot_sys hF (Nat.le_refl _)] at h3
    rw [eqS_zero]
    exact h3
  intro j hj
  obtain ⟨h1, h2⟩ := ixB_lt hj
  have := h0 (ixB l n j)
  unfold extB at this
  rw [h2, cntB_ix hj] at this
  simpa using this
end
end Go.Proofs.YtomkdgcpmpbfhaaGreatDoor
namespace Go.Proofs.YtomkdgcpmpbfhaaGreatDoor
set_option linter.unusedSimpArgs false
set_option linter.unusedVariables false
/-! ## what times, visits and ends satisfy (plain) -/
/-- the probabilities of the ends, after k moves -/
def endK (B : Nat → Bool) (T : Nat → Nat) (x : Nat → Rat) (e0 : Nat → Rat) : Nat → Nat → Rat
  | 0 => e0
  | k + 1 => if B k then upd (endK B T x e0 k) (T k) (endK B T x e0 k (T k) + x k) else endK B T x e0 k
theorem endK_form {B : Nat → Bool} {T : Nat → Nat} {x e0 : Nat → Rat} {s : Nat} : ∀ k, endK B T x e0 k s = e0 s + sumN (fun k => if B k = true ∧ T k = s then x k else 0) k
  | 0 => by unfold endK sumN; grind
  | k + 1 => by
    have ih := endK_form (B := B) (T := T) (x := x) (e0 := e0) (s := s) k
    rw [endK, sumN]
    cases hb : B k
    · rw [if_neg (by simp), if_neg (show ¬ (false = true ∧ T k = s) from fun h => by cases h.1), ih]; grind
    · rw [if_pos rfl]
      unfold upd
      by_cases e : s = T k
      · subst e
        rw [if_pos rfl, if_pos ⟨rfl, rfl⟩, ih]; grind
      · rw [if_neg e, if_neg (show ¬ (true = true ∧ T k = s) from fun h => e h.2.symm), ih]; grind
section
variable {l D : Nat → Bool} {F T : Nat → Nat} {q : Nat → Rat} {nm n i : Nat} {z y : Nat → Rat} {back : Bool}
/-- the solution, 0 everywhere else -/
def solC (back : Bool) (l : Nat → Bool) (F T : Nat → Nat) (q : Nat → Rat) (nm n : Nat) (b : Nat → Rat) : Nat → Rat := fun s => if l s then solB back l F T q nm n b s else 0
theorem AbS.solC_eq (h : AbS nm n F T q D l) (b : Nat → Rat) {s : Nat} (hs : s < n) : solC back l F T q nm n b s = solB back l F T q nm n b s := by
  unfold solC
  cases hl : l s
  · rw [if_neg (by simp), ((h.full back b).2.1 s hs hl)]
  · rw [if_pos rfl]
theorem solC_off (b : Nat → Rat) {s : Nat} (hl : l s = false) : solC back l F T q nm n b s = 0 := by unfold solC; rw [hl]; simp
/-! multiplied rates -/
end
end Go.Proofs.YtomkdgcpmpbfhaaGreatDoor
namespace Go.Proofs.YtomkdgcpmpbfhaaGreatDoor
set_option linter.unusedSimpArgs false
set_option linter.unusedVariables false
/-! ## live states, times, visits, ends of a chain (plain) -/
/-- the live states at the start -/
def Chn.lv0 (c : Chn) : Nat → Bool := upd (fun _ => false) c.sr.toNat (!c.D c.sr.toNat)
/-- after r rounds -/
def Chn.lvN (c : Chn) (r : Nat) : Nat → Bool := sprN (fun s => !c.D s) c.f c.t c.nm c.lv0 r
def Chn.lv (c : Chn) : Nat → Bool := c.lvN c.nd
/-- the states from which a run can end -/
def Chn.enN (c : Chn) (r : Nat) : Nat → Bool := sprN (fun _ => true) c.t c.f c.nm c.D r
def Chn.en (c : Chn) : Nat → Bool := c.enN c.nd
def Chn.allE (c : Chn) : Prop := ∀ s, s < c.nd → c.lv s = true → c.en s = true
open Classical in
/-- the number of a chain's error -/
noncomputable def Chn.codeA (c : Chn) : Int := if c.code ≠ 0 then c.code else if c.allE then 0 else 17
section
variable {c : Chn}
theorem Chn.codeA_0 (h : c.codeA = 0) : c.code = 0 ∧ c.allE := by
  unfold Chn.codeA at h
  split at h
  · contradiction
  · rename_i h1
    split at h
    · rename_i h2; exact ⟨by omega, h2⟩
    · omega
theorem Chn.codeA_ok (h : c.codeA = 0) : c.Ok := Chn.ok_iff.1 (Chn.codeA_0 h).1
theorem Chn.codeA_n (h : c.code ≠ 0) : c.codeA = c.code := by unfold Chn.codeA; rw [if_pos h]
theorem Chn.codeA_17 (h : c.code = 0) (h2 : ¬ c.allE) : c.codeA = 17 := by unfold Chn.codeA; rw [if_neg (by omega), if_neg h2]
theorem Chn.codeA_z (h : c.code = 0) (h2 : c.allE) : c.codeA = 0 := by unfold Chn.codeA; rw [if_neg (by omega), if_pos h2]
theorem Chn.ftA {c : Chn} (ok : c.Ok) : ∀ j, j < c.nm → c.f j < c.nd ∧ c.t j < c.nd ∧ c.f j ≠ c.t j := fun j hj => by
  have := ok.mv j hj
  unfold Chn.f Chn.t
  omega
theorem Chn.lt_t (ok : c.Ok) : ∀ j, j < c.nm → c.t j < c.nd := fun j hj => (Chn.ftA ok j hj).2.1
theorem Chn.lt_f (ok : c.Ok) : ∀ j, j < c.nm → c.f j < c.nd := fun j hj => (Chn.ftA ok j hj).1
theorem Chn.sr_lt (ok : c.Ok) : c.sr.toNat < c.nd := by have := ok.s0; have := ok.s1; omega
theorem Chn.lv_ln (ok : c.Ok) (s : Nat) (h : c.lv s = true) : s < c.nd :=
  sprN_ind (P := fun s => s < c.nd) (fun k hk _ _ => Chn.lt_t ok k hk) (fun s hs => by
    unfold Chn.lv0 upd at hs
    split at hs
    · rename_i e; rw [e]; exact Chn.sr_lt ok
    · cases hs) _ s h
theorem Chn.lv_ld (s : Nat) (h : c.lv s = true) : c.D s = false :=
  sprN_ind (P := fun s => c.D s = false) (fun k hk _ h => by simpa using h) (fun s hs => by
    unfold Chn.lv0 upd at hs
    split at hs
    · rename_i e; rw [e]; simpa using hs
    · cases hs) _ s h
theorem Chn.lv_shut (ok : c.Ok) : Shut (fun s => !c.D s) c.f c.t c.nm c.lv := sprN_shut (Chn.lt_t ok)
theorem Chn.abS (h : c.codeA = 0) : AbS c.nm c.nd c.f c.t c.q c.D c.lv := by
  have ok := Chn.codeA_ok h
  refine ⟨fun k hk => ?_, Chn.lv_ln ok, Chn.lv_ld, fun k hk h1 h2 => Chn.lv_shut ok k hk h1 (by simp [h2]), fun P h0 h1 s hs => ?_⟩
  · have h1 := Chn.ftA ok k hk
    exact ⟨h1.1, h1.2.1, h1.2.2, (ok.mv k hk).2.2.2.2.2.1⟩
  · have hs1 := Chn.lv_ln ok s hs
    have he := (Chn.codeA_0 h).2 s hs1 hs
    exact sprN_ind (P := fun s => s < c.nd → P s) (G := fun _ => true) (F := c.t) (T := c.f) (nm := c.nm) (l := c.D) (fun k hk hp _ hf => h1 k hk (hp (Chn.lt_t ok k hk))) (fun s hs hlt => h0 s hlt hs) c.nd s he hs1
end
/-- the expected times -/
def Chn.times (c : Chn) : Nat → Rat := solC false c.lv c.f c.t c.q c.nm c.nd (fun _ => 1)
/-- the expected times in the states -/
def Chn.visits (c : Chn) : Nat → Rat := solC true c.lv c.f c.t c.q c.nm c.nd (fun s => if s = c.sr.toNat then 1 else 0)
def Chn.end0 (c : Chn) : Nat → Rat := upd (fun _ => 0) c.sr.toNat (if c.D c.sr.toNat then 1 else 0)
def Chn.ends (c : Chn) : Nat → Rat := endK (fun k => c.lv (c.f k) && c.D (c.t k)) c.t (fun k => c.q k * c.visits (c.f k)) c.end0 c.nm
end Go.Proofs.YtomkdgcpmpbfhaaGreatDoor
namespace Go.Proofs.YtomkdgcpmpbfhaaGreatDoor
open Go.RowKit
set_option linter.unusedSimpArgs false
set_option linter.unusedVariables false
set_option maxRecDepth 20000
attribute [local irreducible] nv wp win plainB validR valR canR mvE chkM codeC
/-! ## what a walk along the moves of a chain reads -/
theorem ChI.mv_at {w : World} {b0 cm cd : Nat} {AM AD : Option Addr} {c : Chn} (h : ChI w b0 AM cm AD cd c) (ok : c.Ok) {k : Nat} (hk : k < c.nm) : ∃ bm om s1 A1 n1 c1 B1 m1 d1, AM = some ⟨bm, om, none⟩ ∧ bm < w.heap.size
    ∧ w.cell? ⟨bm, om + k * 5, none⟩ = some (.int .i64 ((c.f k : Nat) : Int)) ∧ w.cell? ⟨bm, om + k * 5 + 1, none⟩ = some (.int .i64 ((c.t k : Nat) : Int)) ∧ w.cell? ⟨bm, om + k * 5 + 2, none⟩ = some (.bool s1) ∧ w.cell? ⟨bm, om + k * 5 + 3, none⟩ = some (.slice A1 n1 c1) ∧ w.cell? ⟨bm, om + k * 5 + 4, none⟩ = some (.slice B1 m1 d1)
    ∧ RdS w b0 (rv s1 A1 n1 c1 B1 m1 d1) (c.R k) ∧ c.f k < c.nd ∧ c.t k < c.nd ∧ c.f k ≠ c.t k := by
  obtain ⟨bm, om, s1, A1, n1, c1, B1, m1, d1, e, hbm, f0, f1, f2, f3, f4, r1⟩ := h.mv.1.at_ hk
  obtain ⟨e0, e1, e2, e3, e4, e5, -⟩ := ok.mv k hk
  have hf : c.F k = ((c.f k : Nat) : Int) := by unfold Chn.f; omega
  have ht : c.T k = ((c.t k : Nat) : Int) := by unfold Chn.t; omega
  rw [hf] at f0
  rw [ht] at f1
  exact ⟨bm, om, s1, A1, n1, c1, B1, m1, d1, e, hbm, f0, f1, f2, f3, f4, r1, by omega, by omega, fun h => e4 (by omega)⟩
/-- .. in a later world -/
theorem ChI.mv_later {w W : World} {cm cd : Nat} {AM AD : Option Addr} {c : Chn} (h : ChI w w.heap.size AM cm AD cd c) (ok : c.Ok) (hb : Below w.heap.size w W) {k : Nat} (hk : k < c.nm) : ∃ bm om s1 A1 n1 c1 B1 m1 d1, AM = some ⟨bm, om, none⟩ ∧ bm < w.heap.size
    ∧ W.cell? ⟨bm, om + k * 5, none⟩ = some (.int .i64 ((c.f k : Nat) : Int)) ∧ W.cell? ⟨bm, om + k * 5 + 1, none⟩ = some (.int .i64 ((c.t k : Nat) : Int)) ∧ W.cell? ⟨bm, om + k * 5 + 2, none⟩ = some (.bool s1) ∧ W.cell? ⟨bm, om + k * 5 + 3, none⟩ = some (.slice A1 n1 c1) ∧ W.cell? ⟨bm, om + k * 5 + 4, none⟩ = some (.slice B1 m1 d1)
    ∧ RdS W w.heap.size (rv s1 A1 n1 c1 B1 m1 d1) (c.R k) ∧ c.f k < c.nd ∧ c.t k < c.nd ∧ c.f k ≠ c.t k := by
  obtain ⟨bm, om, s1, A1, n1, c1, B1, m1, d1, e, hbm, f0, f1, f2, f3, f4, r1, h1, h2, h3⟩ := h.mv_at ok hk
  exact ⟨bm, om, s1, A1, n1, c1, B1, m1, d1, e, hbm, (hb.cell (p := ⟨bm, om + k * 5, none⟩) hbm).trans f0, (hb.cell (p := ⟨bm, om + k * 5 + 1, none⟩) hbm).trans f1, (hb.cell (p := ⟨bm, om + k * 5 + 2, none⟩) hbm).trans f2, (hb.cell (p := ⟨bm, om + k * 5 + 3, none⟩) hbm).trans f3, (hb.cell (p := ⟨bm, om + k * 5 + 4, none⟩) hbm).trans f4, r1.kp (Kp.of_below hb), h1, h2, h3⟩
theorem ChI.dn_later {w W : World} {cm cd : Nat} {AM AD : Option Addr} {c : Chn} (h : ChI w w.heap.size AM cm AD cd c) (hb : Below w.heap.size w W) {s : Nat} (hs : s < c.nd) : ∃ bd od, AD = some ⟨bd, od, none⟩ ∧ bd < w.heap.size ∧ W.cell? ⟨bd, od + s, none⟩ = some (.bool (c.D s)) := by
  obtain ⟨bd, od, e, hbd, -, p0⟩ := h.down hs
  exact ⟨bd, od, e, hbd, (hb.cell (p := ⟨bd, od + s, none⟩) hbd).trans p0⟩
/-- the block of the chain that a call was handed -/
theorem par_cell {w W : World} {cs : Array Value} {t : TypeId} (hb : Below (w.heap.size + 1) (w.alloc (.cells cs t)) W) (j : Nat) : W.cell? ⟨w.heap.size, j, none⟩ = cs[j]? := by
  rw [hb.cell (p := ⟨w.heap.size, j, none⟩) (by show w.heap.size < _; omega), World.cell?_alloc_at _ _ _ _ rfl]
theorem par_cells {w W : World} {a b d e : Value} {t : TypeId} (hb : Below (w.heap.size + 1) (w.alloc (.cells #[a, b, d, e] t)) W) : W.cell? ⟨w.heap.size, 0, none⟩ = some a ∧ W.cell? ⟨w.heap.size, 1, none⟩ = some b ∧ W.cell? ⟨w.heap.size, 2, none⟩ = some d ∧ W.cell? ⟨w.heap.size, 3, none⟩ = some e := ⟨par_cell hb 0, par_cell hb 1, par_cell hb 2, par_cell hb 3⟩
theorem par_below {w W : World} {o : Obj} (hb : Below (w.heap.size + 1) (w.alloc o) W) : Below w.heap.size w W := ((Below.refl _ _).alloc (Nat.le_refl _) o).trans (hb.mono (by omega))
end Go.Proofs.YtomkdgcpmpbfhaaGreatDoor
namespace Go.Proofs.YtomkdgcpmpbfhaaGreatDoor
open Go.RowKit
set_option linter.unusedSimpArgs false
set_option linter.unusedVariables false
set_option maxRecDepth 20000
attribute [local irreducible] nv wp win plainB validR valR canR
/-! ## no words lie in some blocks: so the bound below which a fraction's words may lie is lowered -/
def NWB (w : World) (k : Nat) : Prop := ∃ cs t fz, w.heap[k]? = some (.cells cs t fz) ∧ ∀ (j : Nat) u, cs[j]? = some u → ∀ x : Int, u ≠ .int .u32 x
section
variable {w w' : World} {b0 b1 bo co n c g bd : Nat} {A : Option Addr} {v : Value} {r : Rw} {R : Nat → Rw} {len : Nat → Nat} {M : Nat → Nat → Rat}
end
/-! ## reference: Reduce -/
end Go.Proofs.YtomkdgcpmpbfhaaGreatDoor
namespace Go.Proofs.YtomkdgcpmpbfhaaGreatDoor
open Go.RowKit
set_option linter.unusedSimpArgs false
set_option linter.unusedVariables false
set_option maxRecDepth 20000
attribute [local irreducible] nv wp win plainB validR valR canR
/-! ## a row of the call's own, its words anywhere ahead of another bound -/
def OwS (w : World) (b0 base : Nat) (A : Option Addr) (c n : Nat) (R : Nat → Rw) : Prop := ∃ V, (∀ k, k < n → RdS w b0 (V k) (R k)) ∧ w.ownsRow base 50 3 (.slice A n c) n (cellsV n V)
section
variable {w w' : World} {b0 b1 base c n g : Nat} {A : Option Addr} {R U : Nat → Rw}
theorem RdW.keepN {l : List Nat} (h : RdW w w.heap.size A l) (hg : w.grownBy w' (some g)) (hn : NWB w g) : RdW w' w'.heap.size A l ∧ ∀ a, A = some a → 0 < l.length → a.block ≠ g := by
  have key : ∀ a, A = some a → 0 < l.length → a.block ≠ g := by
    intro a ha hl e
    obtain ⟨b', off, e1, _, hcell⟩ := h.addr hl
    rw [e1] at ha
    injection ha with ha
    subst ha
    obtain ⟨cs, t, fz, g1, g2⟩ := hn
    have := hcell 0 hl
    subst e
    rw [cell_of_row w b' _ _ _ _ g1] at this
    exact g2 _ _ this _ rfl
  refine ⟨⟨h.1, fun hl => ?_⟩, key⟩
  obtain ⟨b, off, e, hb, hc⟩ := h.2 hl
  refine ⟨b, off, e, Nat.lt_of_lt_of_le hb hg.size, fun j u hu => ?_⟩
  rw [grown_at hg _ hb (key _ e hl)]
  exact hc j u hu
theorem RdS.keepN {v : Value} {r : Rw} (h : RdS w b0 v r) (hg : w.grownBy w' (some g)) (hn : NWB w g) : RdS w' b0 v r := by
  obtain ⟨A, c, B, d, h1, h2, h3, h4, h5, h6, h7, h8⟩ := h
  have key : ∀ (X : Option Addr) (l : List Nat), RdW w w.heap.size X l → BlkIn (WB w b0) X l.length → BlkIn (WB w' b0) X l.length := by
    intro X l hr hs hl a ha
    have hne := (hr.keepN hg hn).2 a ha hl
    rcases hs hl a ha with h9 | ⟨cur, fz, h9⟩
    · exact .inl h9
    · exact .inr ⟨cur, fz, by rw [hg.block a.block (Array.getElem?_eq_some_iff.1 h9).1 (fun e => by injection e with e; exact hne e)]; exact h9⟩
  exact ⟨A, c, B, d, h1, h2, h3, h4, (h5.keepN hg hn).1, (h6.keepN hg hn).1, key A _ h5 h7, key B _ h6 h8⟩
theorem OwS.of_own (h : OwR w base A c n R) (hb : base ≤ b0) : OwS w b0 base A c n R := by
  obtain ⟨V, h1, h2⟩ := h
  exact ⟨V, fun k hk => (h1 k hk).base hb, h2⟩
theorem OwS.ra (h : OwS w b0 base A c n R) : RowA w b0 A n R := by
  obtain ⟨V, h1, h2⟩ := h
  exact ⟨V, h1, Rds.of_own h2⟩
theorem OwS.up (h : OwS w b0 base A c n R) (hb : b0 ≤ b1) : OwS w b1 base A c n R := by
  obtain ⟨V, h1, h2⟩ := h
  exact ⟨V, fun k hk => (h1 k hk).base hb, h2⟩
theorem OwS.congr (h : OwS w b0 base A c n R) (e : ∀ k, k < n → R k = U k) : OwS w b0 base A c n U := by
  obtain ⟨V, h1, h2⟩ := h
  exact ⟨V, fun k hk => e k hk ▸ h1 k hk, h2⟩
theorem OwS.frozen (h : OwS w b0 base (some ⟨g, 0, none⟩) c n R) (k : Nat) : w.frozen? ⟨g, k, none⟩ = false := by
  obtain ⟨V, h1, h2⟩ := h
  exact World.ownsRow.frozenAt h2 k
theorem OwS.lt (h : OwS w b0 base (some ⟨g, 0, none⟩) c n R) : base ≤ g ∧ g < w.heap.size := by
  obtain ⟨V, h1, h2⟩ := h
  exact World.ownsRow.lt h2 g rfl
theorem OwS.at_ (h : OwS w b0 base (some ⟨g, 0, none⟩) c n R) {k : Nat} (hk : k < n) : ∃ s A1 n1 c1 B1 m1 d1, w.cell? ⟨g, k * 3, none⟩ = some (.bool s) ∧ w.cell? ⟨g, k * 3 + 1, none⟩ = some (.slice A1 n1 c1) ∧ w.cell? ⟨g, k * 3 + 2, none⟩ = some (.slice B1 m1 d1) ∧ RdS w b0 (rv s A1 n1 c1 B1 m1 d1) (R k) := by
  obtain ⟨b, off, s, A1, n1, c1, B1, m1, d1, e, hb, h0, h1, h2, h3⟩ := h.ra.at_ hk
  injection e with e
  injection e with e1 e2 _
  subst e1 e2
  rw [Nat.zero_add] at h0 h1 h2
  exact ⟨s, A1, n1, c1, B1, m1, d1, h0, h1, h2, h3⟩
theorem OwS.nwb (h : OwS w b0 base (some ⟨g, 0, none⟩) n n R) : NWB w g := by
  obtain ⟨V, h1, h2⟩ := h
  rcases h2.2 with ⟨h, _⟩ | ⟨g', cap, cur, e, hb, hg, hle, hmax, hsz, htake⟩
  · cases h
  · injection e with e1 e2 e3
    injection e1 with e1
    injection e1 with e1
    subst e1 e3
    refine ⟨cur, _, _, hg, fun j u hu x e => ?_⟩
    subst e
    have h3 : cur.toList = cellsV n V := by rw [← htake, List.take_of_length_le (by rw [Array.length_toList, hsz]; exact Nat.le_refl _)]
    have h4 : (cellsV n V)[j]? = some (.int .u32 x) := by rw [← h3, Array.getElem?_toList]; exact hu
    have h5 := List.mem_of_getElem? h4
    simp only [cellsV, List.mem_flatMap, List.mem_range] at h5
    obtain ⟨k, hk, h5⟩ := h5
    obtain ⟨s, A1, a1, c1, B1, b1, d1, e⟩ := (h1 k hk).isR
    rw [e] at h5
    simp [c3] at h5
/-- element k is stored -/
theorem OwS.set (h : OwS w b0 base (some ⟨g, 0, none⟩) n n R) {k : Nat} (hk : k < n) {s : Bool} {A1 : Option Addr} {n1 c1 : Nat} {B1 : Option Addr} {m1 d1 : Nat} {r : Rw} (hr : RdS w b0 (rv s A1 n1 c1 B1 m1 d1) r) :
    OwS (((w.setCell ⟨g, k * 3, none⟩ (.bool s)).setCell ⟨g, k * 3 + 1, none⟩ (.slice A1 n1 c1)).setCell ⟨g, k * 3 + 2, none⟩ (.slice B1 m1 d1)) b0 base (some ⟨g, 0, none⟩) n n (upd R k r) ∧
    w.grownBy (((w.setCell ⟨g, k * 3, none⟩ (.bool s)).setCell ⟨g, k * 3 + 1, none⟩ (.slice A1 n1 c1)).setCell ⟨g, k * 3 + 2, none⟩ (.slice B1 m1 d1)) (some g) := by
  have hn := h.nwb
  obtain ⟨V, h1, h2⟩ := h
  obtain ⟨s0, t0⟩ := World.ownsRow.stored h2 (k * 3) (.bool s)
  obtain ⟨s1, t1⟩ := World.ownsRow.stored s0 (k * 3 + 1) (.slice A1 n1 c1)
  obtain ⟨s2, t2⟩ := World.ownsRow.stored s1 (k * 3 + 2) (.slice B1 m1 d1)
  have hgr := grown_trans (grown_trans t0 t1) t2
  rw [cellsV_set (fun k hk => (h1 k hk).isR) hk] at s2
  refine ⟨⟨upd V k (rv s A1 n1 c1 B1 m1 d1), fun j hj => ?_, s2⟩, hgr⟩
  by_cases e : j = k
  · subst e; rw [upd_same, upd_same]; exact hr.keepN hgr hn
  · rw [upd_ne _ _ e, upd_ne _ _ e]; exact (h1 j hj).keepN hgr hn
/-- .. and a reading elsewhere stays -/
theorem RowA.keepN (h : RowA w b0 A n R) (hg : w.grownBy w' (some g)) (hn : NWB w g) (hne : ∀ a, A = some a → 0 < n → a.block ≠ g) : RowA w' b0 A n R := by
  obtain ⟨V, h1, h2⟩ := h
  refine ⟨V, fun k hk => (h1 k hk).keepN hg hn, h2.1, fun hn0 => ?_⟩
  obtain ⟨b, off, e, hb, hc⟩ := h2.2 hn0
  refine ⟨b, off, e, Nat.lt_of_lt_of_le hb hg.size, fun j u hu => ?_⟩
  rw [grown_at hg _ hb (hne _ e hn0)]
  exact hc j u hu
theorem MatI.baseA {len : Nat → Nat} {M : Nat → Nat → Rw} (h : MatI w b0 A n len M) (hb : b0 ≤ b1) : MatI w b1 A n len M := by
  obtain ⟨Ar, cp, h1, h2, h3⟩ := h
  refine ⟨Ar, cp, h1, fun hn a ha => Nat.lt_of_lt_of_le (h2 hn a ha) hb, fun i hi => ⟨(h3 i hi).1, ?_⟩⟩
  obtain ⟨V, g1, g2, g3⟩ := (h3 i hi).2
  exact ⟨V, fun k hk => (g1 k hk).base hb, g2, fun hn a ha => Nat.lt_of_lt_of_le (g3 hn a ha) hb⟩
theorem MatI.later {len : Nat → Nat} {M : Nat → Nat → Rw} (h : MatI w w.heap.size A n len M) (hb : Below w.heap.size w w') : MatI w' w'.heap.size A n len M := (h.kp (Kp.of_below hb)).baseA hb.size
end
end Go.Proofs.YtomkdgcpmpbfhaaGreatDoor
namespace Go.Proofs.YtomkdgcpmpbfhaaGreatDoor
open Go.RowKit
set_option linter.unusedSimpArgs false
set_option linter.unusedVariables false
set_option maxRecDepth 20000
attribute [local irreducible] nv wp win plainB validR valR canR mvE chkM codeC exK
/-! ## what the functions give, whatever the number of the error -/
def outN' (code : Int) (n : Nat) : Nat := if code = 0 then n else 0
section
variable {w' : World} {b0 base n : Nat} {x : Nat → Rat} {q : Rat} {code : Int} {e : Ending}
end
end Go.Proofs.YtomkdgcpmpbfhaaGreatDoor
namespace Go.Proofs.YtomkdgcpmpbfhaaGreatDoor
open Go.RowKit
set_option linter.unusedSimpArgs false
set_option linter.unusedVariables false
set_option maxRecDepth 20000
attribute [local irreducible] nv wp win plainB validR valR canR mvE chkM codeC exK
/-! ## TransientSteps -/
/-- an answer: a list of fractions and the number of an error -/
def AnsV (z : Int → Value) (m : Nat) (x : Nat → Rat) (code : Int) (e : Ending) (w' : World) : Prop := ∃ A c, e = .returned (.tuple #[.slice A m c, z code]) ∧ RowA w' w'.heap.size A m (can x)
end Go.Proofs.YtomkdgcpmpbfhaaGreatDoor
namespace Go.Proofs.YtomkdgcpmpbfhaaGreatDoor
open Go.RowKit
set_option linter.unusedSimpArgs false
set_option linter.unusedVariables false
set_option maxRecDepth 20000
/-! ## a matrix and one more column, as the laws and the reference write it: rows of a call's own, of fractions of whatever form -/
section
variable {w w' : World} {b c n : Nat} {A : Option Addr} {len : Nat → Nat} {R : Nat → Nat → Rw}
end
theorem RowA.base {w : World} {b0 b1 n : Nat} {A : Option Addr} {R : Nat → Rw} (h : RowA w b0 A n R) (hb : b0 ≤ b1) : RowA w b1 A n R := by
  obtain ⟨V, h1, h2⟩ := h
  exact ⟨V, fun k hk => (h1 k hk).base hb, h2⟩
end Go.Proofs.YtomkdgcpmpbfhaaGreatDoor
