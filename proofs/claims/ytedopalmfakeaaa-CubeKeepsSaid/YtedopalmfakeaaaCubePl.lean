/- Contracts of functions and lemmas, used by the proofs of the given statements. No condition beyond those that each lemma names. -/
import Derived.Test.YtedopalmfakeaaaCubeCnt
import Derived.Test.YtedopalmfakeaaaCubeW7
namespace Go.Proofs.Ytedopalmfakeaaa

/-! ## plain laws: cubes and states -/
theorem zero_iff (n : Nat) : n = 0 ↔ ∀ i, n.testBit i = false := by
  constructor
  · intro h i; rw [h, Nat.zero_testBit]
  · intro h; apply Nat.eq_of_testBit_eq; intro i; rw [h, Nat.zero_testBit]
theorem hoN_iff (c : Cn) (s : Nat) : hoN c s = true ↔ ∀ i, (c.1.testBit i = true → s.testBit i = true) ∧ (c.2.testBit i = true → s.testBit i = false) := by
  unfold hoN
  rw [zero_or, Bool.and_eq_true, beq_iff_eq, beq_iff_eq, zero_iff, zero_iff]
  constructor
  · intro ⟨h1, h2⟩ i
    have a := h1 i
    have b := h2 i
    rw [testBit_ndiff] at a
    rw [Nat.testBit_and] at b
    exact ⟨fun h => by simpa [h] using a, fun h => by simpa [h] using b⟩
  · intro h
    refine ⟨fun i => ?_, fun i => ?_⟩
    · rw [testBit_ndiff]
      cases h1 : c.1.testBit i
      · rfl
      · simp [(h i).1 h1]
    · rw [Nat.testBit_and]
      cases h1 : c.2.testBit i
      · rfl
      · simp [(h i).2 h1]
theorem wiN_iff (a b : Cn) : wiN a b = true ↔ ∀ i, (b.1.testBit i = true → a.1.testBit i = true) ∧ (b.2.testBit i = true → a.2.testBit i = true) := by
  unfold wiN
  rw [zero_or, Bool.and_eq_true, beq_iff_eq, beq_iff_eq, zero_iff, zero_iff]
  constructor
  · intro ⟨h1, h2⟩ i
    have a' := h1 i
    have b' := h2 i
    rw [testBit_ndiff] at a' b'
    exact ⟨fun h => by simpa [h] using a', fun h => by simpa [h] using b'⟩
  · intro h
    refine ⟨fun i => ?_, fun i => ?_⟩
    · rw [testBit_ndiff]
      cases h1 : b.1.testBit i
      · rfl
      · simp [(h i).1 h1]
    · rw [testBit_ndiff]
      cases h1 : b.2.testBit i
      · rfl
      · simp [(h i).2 h1]
theorem apN_iff (a b : Cn) : apN a b = true ↔ ∃ i, (a.1.testBit i = true ∧ b.2.testBit i = true) ∨ (a.2.testBit i = true ∧ b.1.testBit i = true) := by
  constructor
  · intro h
    apply Classical.byContradiction
    intro hn
    have h0 : (a.1 &&& b.2 ||| a.2 &&& b.1) = 0 := by
      rw [zero_iff]
      intro i
      rw [Nat.testBit_or, Nat.testBit_and, Nat.testBit_and]
      cases h1 : a.1.testBit i <;> cases h2 : b.2.testBit i <;> cases h3 : a.2.testBit i <;> cases h4 : b.1.testBit i <;> first | rfl | exact absurd ⟨i, by simp [h1, h2, h3, h4]⟩ hn
    simp [apN, h0] at h
  · rintro ⟨i, h⟩
    apply Classical.byContradiction
    intro hn
    have h0 : (a.1 &&& b.2 ||| a.2 &&& b.1) = 0 := by simpa [apN] using hn
    have := (zero_iff _).1 h0 i
    rw [Nat.testBit_or, Nat.testBit_and, Nat.testBit_and] at this
    rcases h with ⟨h1, h2⟩ | ⟨h1, h2⟩ <;> simp [h1, h2] at this
theorem hoN_apart {a b : Cn} {s : Nat} (h : apN a b = true) (ha : hoN a s = true) : hoN b s = false := by
  obtain ⟨i, h⟩ := (apN_iff a b).1 h
  have h1 := (hoN_iff a s).1 ha i
  cases hb : hoN b s
  · rfl
  · have h2 := (hoN_iff b s).1 hb i
    rcases h with ⟨h3, h4⟩ | ⟨h3, h4⟩
    · have := h1.1 h3
      have := h2.2 h4
      simp_all
    · have := h1.2 h3
      have := h2.1 h4
      simp_all
theorem hoN_within {a b : Cn} {s : Nat} (h : wiN a b = true) (ha : hoN a s = true) : hoN b s = true := by
  rw [hoN_iff] at ha ⊢
  intro i
  have h1 := (wiN_iff a b).1 h i
  exact ⟨fun hb => (ha i).1 (h1.1 hb), fun hb => (ha i).2 (h1.2 hb)⟩
theorem hoN_join (a b : Cn) (s : Nat) : hoN (a.1 ||| b.1, a.2 ||| b.2) s = (hoN a s && hoN b s) := by
  rw [Bool.eq_iff_iff, Bool.and_eq_true, hoN_iff, hoN_iff, hoN_iff]
  constructor
  · intro h
    refine ⟨fun i => ?_, fun i => ?_⟩ <;> have := h i <;> simp only [Nat.testBit_or] at this
    · exact ⟨fun h1 => this.1 (by simp [h1]), fun h1 => this.2 (by simp [h1])⟩
    · exact ⟨fun h1 => this.1 (by simp [h1]), fun h1 => this.2 (by simp [h1])⟩
  · intro ⟨h1, h2⟩ i
    simp only [Nat.testBit_or, Bool.or_eq_true]
    exact ⟨fun h => h.elim (h1 i).1 (h2 i).1, fun h => h.elim (h1 i).2 (h2 i).2⟩
theorem hoN_pow1 (k s : Nat) : hoN (2 ^ k, 0) s = s.testBit k := by
  rw [Bool.eq_iff_iff, hoN_iff]
  constructor
  · intro h; exact (h k).1 (by simp)
  · intro h i
    simp only [Nat.testBit_two_pow, Nat.zero_testBit]
    exact ⟨fun h1 => by simp at h1; subst h1; exact h, fun h1 => by cases h1⟩
theorem hoN_pow2 (k s : Nat) : hoN (0, 2 ^ k) s = !s.testBit k := by
  rw [Bool.eq_iff_iff, hoN_iff]
  constructor
  · intro h; have := (h k).2 (by simp); simp [this]
  · intro h i
    simp only [Nat.testBit_two_pow, Nat.zero_testBit]
    exact ⟨fun h1 => (by cases h1), fun h1 => by simp at h1; subst h1; simpa using h⟩
theorem hoN_yes (x y k s : Nat) : hoN (x ||| 2 ^ k, y) s = (hoN (x, y) s && s.testBit k) := by
  have := hoN_join (x, y) (2 ^ k, 0) s
  simpa [hoN_pow1] using this
theorem hoN_no (x y k s : Nat) : hoN (x, y ||| 2 ^ k) s = (hoN (x, y) s && !s.testBit k) := by
  have := hoN_join (x, y) (0, 2 ^ k) s
  simpa [hoN_pow2] using this
theorem inN_append (l m : List Cn) (s : Nat) : inN (l ++ m) s = inN l s + inN m s := by simp [inN]
theorem inN_one (c : Cn) (s : Nat) : inN [c] s = if hoN c s then 1 else 0 := by
  unfold inN
  cases h : hoN c s <;> simp [h]
theorem inN_cons (c : Cn) (l : List Cn) (s : Nat) : inN (c :: l) s = (if hoN c s then 1 else 0) + inN l s := by
  rw [← inN_one, ← inN_append]; rfl
theorem inN_nil (s : Nat) : inN [] s = 0 := rfl

/-! ### minus -/
theorem mto_bits {a b : Cn} (hb : okN b) (k i : Nat) : (mto a b k).1.1.testBit i = (a.1.testBit i || (decide (i < k) && b.1.testBit i)) ∧ (mto a b k).1.2.testBit i = (a.2.testBit i || (decide (i < k) && b.2.testBit i)) := by
  induction k with
  | zero => simp [mto]
  | succ k ih =>
    have hbb := tb0 hb.2.2 k
    rw [mto_succ]
    by_cases hik : k = i
    · subst hik
      have h1 : (mto a b k).1.1.testBit k = a.1.testBit k := by rw [ih.1]; simp
      have h2 : (mto a b k).1.2.testBit k = a.2.testBit k := by rw [ih.2]; simp
      unfold mst
      rw [h1, h2]
      split
      · rename_i h
        simp at h
        have : b.2.testBit k = false := bl3 hbb h.1
        refine ⟨?_, ?_⟩
        · simp [Nat.testBit_or, h.1]
        · simp [h2, this]
      · rename_i h
        split
        · rename_i h'
          simp at h h'
          refine ⟨?_, ?_⟩
          · rw [h1]
            cases hb1 : b.1.testBit k
            · simp
            · simp [h hb1]
          · simp [Nat.testBit_or, h'.1]
        · rename_i h'
          simp at h h'
          refine ⟨?_, ?_⟩
          · rw [h1]
            cases hb1 : b.1.testBit k
            · simp
            · simp [h hb1]
          · rw [h2]
            cases hb1 : b.2.testBit k
            · simp
            · simp [h' hb1]
    · have e : decide (i < k + 1) = decide (i < k) := by simp; omega
      rw [e]
      unfold mst
      split
      · exact ⟨by rw [Nat.testBit_or, Nat.testBit_two_pow]; simp [hik, ih.1], ih.2⟩
      · split
        · exact ⟨ih.1, by rw [Nat.testBit_or, Nat.testBit_two_pow]; simp [hik, ih.2]⟩
        · exact ih
theorem mto_in (a b : Cn) (k s : Nat) : inN (mto a b k).2 s + (if hoN (mto a b k).1 s then 1 else 0) = if hoN a s then 1 else 0 := by
  induction k with
  | zero => simp [mto, inN_nil]; rfl
  | succ k ih =>
    rw [mto_succ]
    unfold mst
    split
    · rw [inN_append, inN_one, hoN_yes, hoN_no, ← ih]
      cases hoN ((mto a b k).1.1, (mto a b k).1.2) s <;> cases s.testBit k <;> simp <;> omega
    · split
      · rw [inN_append, inN_one, hoN_yes, hoN_no, ← ih]
        cases hoN ((mto a b k).1.1, (mto a b k).1.2) s <;> cases s.testBit k <;> simp <;> omega
      · exact ih
theorem lt24_bit {x i : Nat} (hx : x < 16777216) (h : x.testBit i = true) : i < 24 := by
  rcases Nat.lt_or_ge i 24 with h1 | h1
  · exact h1
  · have := Nat.testBit_lt_two_pow (x := x) (i := i) (Nat.lt_of_lt_of_le hx (Nat.pow_le_pow_right (n := 2) (by omega) h1))
    rw [this] at h; cases h
/-- a state is in exactly one cube of the difference if it is in a and not in b, else in none -/
theorem miN_in (a b : Cn) (hb : okN b) (s : Nat) : inN (miN a b) s = if hoN a s && !hoN b s then 1 else 0 := by
  unfold miN
  split
  · rename_i hp
    rw [inN_one]
    cases ha : hoN a s
    · simp
    · simp [hoN_apart hp ha]
  · have h := mto_in a b 24 s
    have e : hoN (mto a b 24).1 s = (hoN a s && hoN b s) := by
      rw [← hoN_join]
      congr 1
      refine Prod.ext ?_ ?_
      · apply Nat.eq_of_testBit_eq
        intro i
        rw [(mto_bits hb 24 i).1]
        show _ = (a.1 ||| b.1).testBit i
        rw [Nat.testBit_or]
        cases h1 : b.1.testBit i
        · simp
        · simp [lt24_bit hb.1 h1]
      · apply Nat.eq_of_testBit_eq
        intro i
        rw [(mto_bits hb 24 i).2]
        show _ = (a.2 ||| b.2).testBit i
        rw [Nat.testBit_or]
        cases h1 : b.2.testBit i
        · simp
        · simp [lt24_bit hb.2.1 h1]
    rw [e] at h
    cases ha : hoN a s <;> cases hb' : hoN b s <;> simp [ha, hb'] at h ⊢ <;> omega
theorem dis {x y : Nat} (h : ∀ i, ¬ (x.testBit i = true ∧ y.testBit i = true)) : x &&& y = 0 := by
  rw [zero_iff]
  intro i
  rw [Nat.testBit_and]
  have := h i
  cases h1 : x.testBit i <;> cases h2 : y.testBit i <;> simp_all
theorem ok_yes {x y k : Nat} (h : okN (x, y)) (hk : k < 24) (hy : y.testBit k = false) : okN (x ||| 2 ^ k, y) := by
  refine ⟨or_lt24 h.1 (pow_lt24 hk), h.2.1, dis fun i hh => ?_⟩
  obtain ⟨h1, h2⟩ := hh
  simp only [Nat.testBit_or, Nat.testBit_two_pow, Bool.or_eq_true, decide_eq_true_eq] at h1
  rcases h1 with h1 | h1
  · exact tb0 h.2.2 i ⟨h1, h2⟩
  · subst h1
    rw [hy] at h2; cases h2
theorem ok_no {x y k : Nat} (h : okN (x, y)) (hk : k < 24) (hx : x.testBit k = false) : okN (x, y ||| 2 ^ k) := by
  refine ⟨h.1, or_lt24 h.2.1 (pow_lt24 hk), dis fun i hh => ?_⟩
  obtain ⟨h2, h1⟩ := hh
  simp only [Nat.testBit_or, Nat.testBit_two_pow, Bool.or_eq_true, decide_eq_true_eq] at h1
  rcases h1 with h1 | h1
  · exact tb0 h.2.2 i ⟨h2, h1⟩
  · subst h1
    rw [hx] at h2; cases h2
/-- minus gives cubes again -/
theorem mto_ok {a b : Cn} (ha : okN a) (hb : okN b) (hp : apN a b = false) (k : Nat) (hk : k ≤ 24) : okN (mto a b k).1 ∧ ∀ c ∈ (mto a b k).2, okN c := by
  induction k with
  | zero => exact ⟨ha, by simp [mto]⟩
  | succ k ih =>
    obtain ⟨i1, i4⟩ := ih (by omega)
    have hs := mto_side (a := a) hb hp k k
    rw [mto_succ]
    unfold mst
    split
    · rename_i h
      simp at h
      have hy : (mto a b k).1.2.testBit k = false := by
        cases h2 : (mto a b k).1.2.testBit k
        · rfl
        · exact absurd ⟨h2, h.1⟩ hs.2
      refine ⟨ok_yes i1 (by omega) hy, fun c hc => ?_⟩
      rw [List.mem_append, List.mem_singleton] at hc
      rcases hc with hc | hc
      · exact i4 c hc
      · rw [hc]; exact ok_no i1 (by omega) h.2
    · split
      · rename_i h
        simp at h
        have hx : (mto a b k).1.1.testBit k = false := by
          cases h2 : (mto a b k).1.1.testBit k
          · rfl
          · exact absurd ⟨h2, h.1⟩ hs.1
        refine ⟨ok_no i1 (by omega) hx, fun c hc => ?_⟩
        rw [List.mem_append, List.mem_singleton] at hc
        rcases hc with hc | hc
        · exact i4 c hc
        · rw [hc]; exact ok_yes i1 (by omega) h.2
      · exact ⟨i1, i4⟩
theorem miN_ok {a b : Cn} (ha : okN a) (hb : okN b) : ∀ c ∈ miN a b, okN c := by
  unfold miN
  split
  · intro c hc; rw [List.mem_singleton] at hc; rw [hc]; exact ha
  · rename_i hp
    exact (mto_ok ha hb (by simpa using hp) 24 (Nat.le_refl _)).2
theorem miN_le (a b : Cn) : (miN a b).length ≤ 24 := by
  unfold miN
  split
  · simp
  · exact mto_length a b 24

/-! ### consensus -/
theorem pop_none {f n : Nat} (hn : n < 2 ^ f) (h : pop f n = 0) : n = 0 := by
  induction f generalizing n with
  | zero => simpa using hn
  | succ f ih =>
    simp only [pop] at h
    have := ih (n := n / 2) (by rw [Nat.pow_succ] at hn; omega) (by omega)
    omega
theorem pop_single {f n : Nat} (hn : n < 2 ^ f) (h : pop f n = 1) : ∃ j, n = 2 ^ j := by
  induction f generalizing n with
  | zero => simp [pop] at h
  | succ f ih =>
    simp only [pop] at h
    have hn2 : n / 2 < 2 ^ f := by rw [Nat.pow_succ] at hn; omega
    rcases Nat.mod_two_eq_zero_or_one n with h0 | h1
    · obtain ⟨j, hj⟩ := ih hn2 (by omega)
      exact ⟨j + 1, by rw [Nat.pow_succ]; omega⟩
    · have := pop_none hn2 (by omega)
      exact ⟨0, by simp; omega⟩
theorem cons_holds {a b : Cn} (ha : okN a) (hb : okN b) (hc : csB a b = true) {s : Nat} (h : hoN (csN a b) s = true) : hoN a s = true ∨ hoN b s = true := by
  have hp : popc (unl a b) = 1 := by simpa [csB] using hc
  obtain ⟨j, hj⟩ := pop_single (f := 24) (unl_lt a b ha hb) hp
  rw [csN, if_pos hc] at h
  have hbit : ∀ i, (unl a b).testBit i = ((a.1.testBit i && b.2.testBit i) || (a.2.testBit i && b.1.testBit i)) := by
    intro i; unfold unl; rw [Nat.testBit_or, Nat.testBit_and, Nat.testBit_and]
  have hcs : ∀ i, i ≠ j → (a.1.testBit i = true ∨ b.1.testBit i = true → s.testBit i = true) ∧ (a.2.testBit i = true ∨ b.2.testBit i = true → s.testBit i = false) := by
    intro i hi
    have hu : (unl a b).testBit i = false := by rw [hj, Nat.testBit_two_pow]; simp; omega
    have := (hoN_iff _ s).1 h i
    simp only [coN, testBit_ndiff, Nat.testBit_or, hu] at this
    simpa using this
  have hjj : ((a.1.testBit j && b.2.testBit j) || (a.2.testBit j && b.1.testBit j)) = true := by
    rw [← hbit, hj]; simp
  have ea := tb0 ha.2.2 j
  have eb := tb0 hb.2.2 j
  have side : ∀ c : Cn, (∀ i, i ≠ j → (c.1.testBit i = true → s.testBit i = true) ∧ (c.2.testBit i = true → s.testBit i = false)) → (c.1.testBit j = true → s.testBit j = true) → (c.2.testBit j = true → s.testBit j = false) → hoN c s = true := by
    intro c h1 h2 h3
    rw [hoN_iff]
    intro i
    by_cases hi : i = j
    · subst hi; exact ⟨h2, h3⟩
    · exact h1 i hi
  have fa := fun i hi => (⟨fun h => (hcs i hi).1 (.inl h), fun h => (hcs i hi).2 (.inl h)⟩ : (a.1.testBit i = true → s.testBit i = true) ∧ (a.2.testBit i = true → s.testBit i = false))
  have fb := fun i hi => (⟨fun h => (hcs i hi).1 (.inr h), fun h => (hcs i hi).2 (.inr h)⟩ : (b.1.testBit i = true → s.testBit i = true) ∧ (b.2.testBit i = true → s.testBit i = false))
  cases hs : s.testBit j
  · rw [Bool.or_eq_true, Bool.and_eq_true, Bool.and_eq_true] at hjj
    rcases hjj with ⟨h1, h2⟩ | ⟨h1, h2⟩
    · exact .inr (side b fb (fun h => absurd ⟨h, h2⟩ eb) fun _ => hs)
    · exact .inl (side a fa (fun h => absurd ⟨h, h1⟩ ea) fun _ => hs)
  · rw [Bool.or_eq_true, Bool.and_eq_true, Bool.and_eq_true] at hjj
    rcases hjj with ⟨h1, h2⟩ | ⟨h1, h2⟩
    · exact .inl (side a fa (fun _ => hs) fun h => absurd ⟨h1, h⟩ ea)
    · exact .inr (side b fb (fun _ => hs) fun h => absurd ⟨h2, h⟩ eb)
theorem csN_ok {a b : Cn} (ha : okN a) (hb : okN b) : okN (csN a b) := by
  unfold csN
  split
  · refine ⟨ndiff_lt24 (or_lt24 ha.1 hb.1), ndiff_lt24 (or_lt24 ha.2.1 hb.2.1), dis fun i hh => ?_⟩
    obtain ⟨h1, h2⟩ := hh
    have ea := tb0 ha.2.2 i
    have eb := tb0 hb.2.2 i
    simp only [coN, testBit_ndiff, Nat.testBit_or, unl, Nat.testBit_and] at h1 h2
    cases h3 : a.1.testBit i <;> cases h4 : a.2.testBit i <;> cases h5 : b.1.testBit i <;> cases h6 : b.2.testBit i <;> simp [h3, h4, h5, h6] at h1 h2 ea eb
  · exact ⟨by simp, by simp, by simp⟩
theorem meN_ok {a b : Cn} (ha : okN a) (hb : okN b) : okN (meN a b) := by
  unfold meN
  split
  · exact ⟨by simp, by simp, by simp⟩
  · rename_i hp
    refine ⟨or_lt24 ha.1 hb.1, or_lt24 ha.2.1 hb.2.1, dis fun i hh => ?_⟩
    obtain ⟨h1, h2⟩ := hh
    have ea := tb0 ha.2.2 i
    have eb := tb0 hb.2.2 i
    have hn := (not_congr (apN_iff a b)).1 hp
    simp only [boN, Nat.testBit_or] at h1 h2
    refine hn ⟨i, ?_⟩
    cases h3 : a.1.testBit i <;> cases h4 : a.2.testBit i <;> cases h5 : b.1.testBit i <;> cases h6 : b.2.testBit i <;> simp_all
theorem meet_holds (a b : Cn) (s : Nat) : ((!apN a b) && hoN (meN a b) s) = (hoN a s && hoN b s) := by
  unfold meN
  cases hp : apN a b
  · simp only [Bool.false_eq_true, if_false, Bool.not_false, Bool.true_and]
    exact hoN_join a b s
  · simp only [Bool.not_true, Bool.false_and]
    cases ha : hoN a s
    · rfl
    · rw [hoN_apart hp ha]; rfl
end Go.Proofs.Ytedopalmfakeaaa
