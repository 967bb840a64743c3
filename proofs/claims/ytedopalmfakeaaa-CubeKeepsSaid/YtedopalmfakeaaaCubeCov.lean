/- Contracts of functions and lemmas, used by the proofs of the given statements. No condition beyond those that each lemma names. -/
import Derived.Test.YtedopalmfakeaaaCubePl
namespace Go.Proofs.Ytedopalmfakeaaa

/-! ## plain laws: counting the states of a list, covering -/
def anyN (l : List Cn) (s : Nat) : Bool := l.any fun c => hoN c s
/-- all events of a cube are among S -/
def inS (S : Nat) (c : Cn) : Prop := ∀ i, (c.1.testBit i = true ∨ c.2.testBit i = true) → S.testBit i = true
def keepB (j : Nat) (failed : Bool) (c : Cn) : Bool := if failed then !c.2.testBit j else !c.1.testBit j
def cutN (j : Nat) (c : Cn) : Cn := (ndiff c.1 (2 ^ j), ndiff c.2 (2 ^ j))
def spN (l : List Cn) (j : Nat) (failed : Bool) : List Cn := (l.filter (keepB j failed)).map (cutN j)
theorem spN_succ (l : List Cn) (j : Nat) (f : Bool) (k : Nat) (h : k < l.length) : spN (l.take (k + 1)) j f = spN (l.take k) j f ++ (if keepB j f l[k] then [cutN j l[k]] else []) := by
  unfold spN
  rw [List.take_succ_eq_append_getElem h, List.filter_append, List.map_append]
  congr 1
  cases hk : keepB j f l[k] <;> simp [hk]
theorem spN_le (l : List Cn) (j : Nat) (f : Bool) : (spN l j f).length ≤ l.length := by
  unfold spN; rw [List.length_map]; exact List.length_filter_le _ _
theorem cutN_ok {c : Cn} (h : okN c) (j : Nat) : okN (cutN j c) := by
  refine ⟨ndiff_lt24 h.1, ndiff_lt24 h.2.1, dis fun i hh => ?_⟩
  obtain ⟨h1, h2⟩ := hh
  simp only [cutN, testBit_ndiff] at h1 h2
  exact tb0 h.2.2 i ⟨by simp at h1; exact h1.1, by simp at h2; exact h2.1⟩
theorem spN_ok {l : List Cn} (h : ∀ c ∈ l, okN c) (j : Nat) (f : Bool) : ∀ c ∈ spN l j f, okN c := by
  intro c hc
  simp only [spN, List.mem_map, List.mem_filter] at hc
  obtain ⟨d, ⟨hd, _⟩, rfl⟩ := hc
  exact cutN_ok (h d hd) j
theorem spN_inS {l : List Cn} {S : Nat} (h : ∀ c ∈ l, inS S c) (j : Nat) (f : Bool) : ∀ c ∈ spN l j f, inS (ndiff S (2 ^ j)) c := by
  intro c hc
  simp only [spN, List.mem_map, List.mem_filter] at hc
  obtain ⟨d, ⟨hd, _⟩, rfl⟩ := hc
  intro i hi
  simp only [cutN, testBit_ndiff] at hi
  rw [testBit_ndiff]
  have := h d hd i
  cases h1 : (2 ^ j).testBit i
  · simp only [h1, Bool.not_false, Bool.and_true] at hi ⊢
    exact this hi
  · simp [h1] at hi
theorem cut_false (c : Cn) (j s : Nat) (hs : s.testBit j = false) : (keepB j false c && hoN (cutN j c) s) = hoN c s := by
  rw [Bool.eq_iff_iff, Bool.and_eq_true, hoN_iff, hoN_iff]
  simp only [keepB, cutN, testBit_ndiff, Nat.testBit_two_pow, Bool.false_eq_true, if_false, Bool.not_eq_true']
  constructor
  · intro ⟨h1, h2⟩ i
    by_cases hi : j = i
    · subst hi; simp [h1, hs]
    · have := h2 i; simpa [hi] using this
  · intro h
    refine ⟨?_, fun i => ?_⟩
    · cases h1 : c.1.testBit j
      · rfl
      · rw [(h j).1 h1] at hs; cases hs
    · by_cases hi : j = i
      · subst hi; simp
      · have := h i; simpa [hi] using this
theorem cut_true (c : Cn) (j s : Nat) (hs : s.testBit j = false) : (keepB j true c && hoN (cutN j c) s) = hoN c (s ||| 2 ^ j) := by
  rw [Bool.eq_iff_iff, Bool.and_eq_true, hoN_iff, hoN_iff]
  simp only [keepB, cutN, testBit_ndiff, Nat.testBit_two_pow, if_true, Bool.not_eq_true', Nat.testBit_or]
  constructor
  · intro ⟨h1, h2⟩ i
    by_cases hi : j = i
    · subst hi; simp [h1]
    · have := h2 i; simpa [hi] using this
  · intro h
    refine ⟨?_, fun i => ?_⟩
    · cases h1 : c.2.testBit j
      · rfl
      · have := (h j).2 h1; simp at this
    · by_cases hi : j = i
      · subst hi; simp
      · have := h i; simpa [hi] using this
theorem any_spN (l : List Cn) (j : Nat) (f : Bool) (s : Nat) : anyN (spN l j f) s = l.any fun c => keepB j f c && hoN (cutN j c) s := by
  unfold anyN spN
  induction l with
  | nil => rfl
  | cons c l ih =>
    cases hk : keepB j f c <;> simp [hk] at ih ⊢ <;> rw [← ih] <;> simp
theorem anyN_false {l : List Cn} {j s : Nat} (hs : s.testBit j = false) : anyN (spN l j false) s = anyN l s := by
  rw [any_spN]; unfold anyN; congr 1; funext c; exact cut_false c j s hs
theorem anyN_true {l : List Cn} {j s : Nat} (hs : s.testBit j = false) : anyN (spN l j true) s = anyN l (s ||| 2 ^ j) := by
  rw [any_spN]; unfold anyN; congr 1; funext c; exact cut_true c j s hs
theorem isSt_cut {S j s : Nat} (h : isSt 24 (ndiff S (2 ^ j)) s) : s.testBit j = false := by
  cases hs : s.testBit j
  · rfl
  · have := (h j hs).2
    rw [testBit_ndiff] at this; simp at this
/-- what count computes, one step -/
theorem cnt_step {S j : Nat} {l : List Cn} (hj : j < 24) (hS : S.testBit j = true) : cnt 24 S (anyN l) = cnt 24 (ndiff S (2 ^ j)) (anyN (spN l j false)) + cnt 24 (ndiff S (2 ^ j)) (anyN (spN l j true)) := by
  rw [cnt_split hj hS]
  congr 1
  · exact cnt_congr fun s hs => (anyN_false (isSt_cut hs)).symm
  · exact cnt_congr fun s hs => (anyN_true (isSt_cut hs)).symm
theorem popc_cut {S j : Nat} (hj : j < 24) (hS : S.testBit j = true) : popc S = popc (ndiff S (2 ^ j)) + 1 := by
  have h := cnt_split hj hS (fun _ => true)
  rw [cnt_true, cnt_true] at h
  have h2 : 2 ^ pop 24 S = 2 ^ (pop 24 (ndiff S (2 ^ j)) + 1) := by rw [Nat.pow_succ]; omega
  exact (Nat.pow_right_inj (by omega)).1 h2
theorem cnt_le24 (S : Nat) (p : Nat → Bool) : cnt 24 S p ≤ 16777216 := by
  have h1 := @cnt_le 24 S p
  have h2 : 2 ^ pop 24 S ≤ 2 ^ 24 := Nat.pow_le_pow_right (by omega) (pop_le 24 S)
  omega
theorem hoN_00 (s : Nat) : hoN (0, 0) s = true := by rw [hoN_iff]; simp
theorem anyN_of_mem {l : List Cn} {c : Cn} {s : Nat} (hc : c ∈ l) (h : hoN c s = true) : anyN l s = true := List.any_eq_true.2 ⟨c, hc, h⟩
theorem cnt_one {S : Nat} {l : List Cn} (h : ((0, 0) : Cn) ∈ l) : cnt 24 S (anyN l) = 2 ^ popc S := by
  rw [show 2 ^ popc S = 2 ^ pop 24 S from rfl, cnt_full]
  exact fun s _ => anyN_of_mem h (hoN_00 s)
theorem inS_zero {S : Nat} {c : Cn} (hS : popc S = 0) (hlt : S < 16777216) (h : inS S c) : c = (0, 0) := by
  have h0 : S = 0 := pop_none (f := 24) hlt hS
  subst h0
  refine Prod.ext ?_ ?_
  · rw [show ((0, 0) : Cn).1 = 0 from rfl, zero_iff]
    intro i
    cases h1 : c.1.testBit i
    · rfl
    · have := h i (.inl h1); simp at this
  · rw [show ((0, 0) : Cn).2 = 0 from rfl, zero_iff]
    intro i
    cases h1 : c.2.testBit i
    · rfl
    · have := h i (.inr h1); simp at this

/-! ### within a cube -/
/-- the events of T that a cube leaves free -/
def frT (T : Nat) (c : Cn) : Nat := ndiff T (c.1 ||| c.2)
/-- the states of c, and of T beyond, that are in a cube of the list -/
def cntC (T : Nat) (l : List Cn) (c : Cn) : Nat := cnt 24 (frT T c) fun s => anyN l (s ||| c.1)
def covB (l : List Cn) (c : Cn) : Bool := cntC 16777215 l c == 2 ^ popc (frT 16777215 c)
/-- the cubes that meet c, without its events -/
def reN (l : List Cn) (c : Cn) : List Cn := (l.filter fun d => !apN d c).map fun d => (ndiff d.1 c.1, ndiff d.2 c.2)
theorem reN_succ (l : List Cn) (c : Cn) (k : Nat) (h : k < l.length) : reN (l.take (k + 1)) c = reN (l.take k) c ++ (if apN l[k] c then [] else [(ndiff l[k].1 c.1, ndiff l[k].2 c.2)]) := by
  unfold reN
  rw [List.take_succ_eq_append_getElem h, List.filter_append, List.map_append]
  congr 1
  cases hk : apN l[k] c <;> simp [hk]
theorem reN_le (l : List Cn) (c : Cn) : (reN l c).length ≤ l.length := by
  unfold reN; rw [List.length_map]; exact List.length_filter_le _ _
theorem reN_ok {l : List Cn} {c : Cn} (h : ∀ d ∈ l, okN d) : ∀ d ∈ reN l c, okN d := by
  intro d hd
  simp only [reN, List.mem_map, List.mem_filter] at hd
  obtain ⟨e, ⟨he, _⟩, rfl⟩ := hd
  have hk := h e he
  refine ⟨ndiff_lt24 hk.1, ndiff_lt24 hk.2.1, dis fun i hh => ?_⟩
  obtain ⟨h1, h2⟩ := hh
  simp only [testBit_ndiff, Bool.and_eq_true] at h1 h2
  exact tb0 hk.2.2 i ⟨h1.1, h2.1⟩
theorem reN_inS {l : List Cn} {c : Cn} (h : ∀ d ∈ l, okN d) : ∀ d ∈ reN l c, inS (frT 16777215 c) d := by
  intro d hd
  simp only [reN, List.mem_map, List.mem_filter] at hd
  obtain ⟨e, ⟨he, ha⟩, rfl⟩ := hd
  have hk := h e he
  have hn : ¬ apN e c = true := by simpa using ha
  rw [apN_iff] at hn
  intro i hi
  have hT : i < 24 → (16777215 : Nat).testBit i = true := by
    intro hlt
    rw [show (16777215 : Nat) = 2 ^ 24 - 1 from rfl, Nat.testBit_two_pow_sub_one]; simpa using hlt
  simp only [testBit_ndiff, Bool.and_eq_true, Bool.not_eq_true'] at hi
  unfold frT
  rw [testBit_ndiff, Nat.testBit_or]
  rcases hi with ⟨h1, h2⟩ | ⟨h1, h2⟩
  · have h3 : c.2.testBit i = false := by
      cases h3 : c.2.testBit i
      · rfl
      · exact absurd ⟨i, .inl ⟨h1, h3⟩⟩ hn
    simp [hT (lt24_bit hk.1 h1), h2, h3]
  · have h3 : c.1.testBit i = false := by
      cases h3 : c.1.testBit i
      · rfl
      · exact absurd ⟨i, .inr ⟨h1, h3⟩⟩ hn
    simp [hT (lt24_bit hk.2.1 h1), h2, h3]
theorem re_holds {T : Nat} {c d : Cn} (hc : okN c) {s : Nat} (hs : isSt 24 (frT T c) s) : ((!apN d c) && hoN (ndiff d.1 c.1, ndiff d.2 c.2) s) = hoN d (s ||| c.1) := by
  have hfree : ∀ i, s.testBit i = true → c.1.testBit i = false ∧ c.2.testBit i = false := by
    intro i hi
    have := (hs i hi).2
    unfold frT at this
    rw [testBit_ndiff, Nat.testBit_or] at this
    simpa using (by simpa using this : _ ∧ _).2
  cases hp : apN d c
  · have hn : ¬ apN d c = true := by simp [hp]
    rw [apN_iff] at hn
    simp only [Bool.not_false, Bool.true_and]
    rw [Bool.eq_iff_iff, hoN_iff, hoN_iff]
    simp only [testBit_ndiff, Nat.testBit_or]
    constructor
    · intro h i
      have := h i
      refine ⟨fun h1 => ?_, fun h1 => ?_⟩
      · cases h2 : c.1.testBit i
        · simpa using this.1 (by simp [h1, h2])
        · simp
      · have h3 : c.1.testBit i = false := by
          cases h3 : c.1.testBit i
          · rfl
          · exact absurd ⟨i, .inr ⟨h1, h3⟩⟩ hn
        cases h2 : c.2.testBit i
        · simpa [h3] using this.2 (by simp [h1, h2])
        · cases h4 : s.testBit i
          · simp [h3]
          · have := (hfree i h4).2; rw [h2] at this; cases this
    · intro h i
      have := h i
      refine ⟨fun h1 => ?_, fun h1 => ?_⟩
      · simp at h1
        have := this.1 h1.1
        simpa [h1.2] using this
      · simp at h1
        have := this.2 h1.1
        simp at this
        exact this.1
  · simp only [Bool.not_true, Bool.false_and]
    obtain ⟨i, hi⟩ := (apN_iff d c).1 hp
    symm
    cases hh : hoN d (s ||| c.1)
    · rfl
    · have := (hoN_iff _ _).1 hh i
      rw [Nat.testBit_or] at this
      rcases hi with ⟨h1, h2⟩ | ⟨h1, h2⟩
      · have h3 := this.1 h1
        have h4 : c.1.testBit i = false := by
          cases h4 : c.1.testBit i
          · rfl
          · exact absurd ⟨h4, h2⟩ (tb0 hc.2.2 i)
        rw [h4, Bool.or_false] at h3
        rw [(hfree i h3).2] at h2; cases h2
      · have h3 := this.2 h1
        simp [h2] at h3
theorem any_reN (l : List Cn) (c : Cn) (s : Nat) : anyN (reN l c) s = l.any fun d => (!apN d c) && hoN (ndiff d.1 c.1, ndiff d.2 c.2) s := by
  unfold anyN reN
  induction l with
  | nil => rfl
  | cons d l ih =>
    cases hk : apN d c <;> simp [hk] at ih ⊢ <;> rw [← ih] <;> simp
theorem cnt_reN {c : Cn} (hc : okN c) (l : List Cn) : cnt 24 (frT 16777215 c) (anyN (reN l c)) = cntC 16777215 l c := by
  unfold cntC
  refine cnt_congr fun s hs => ?_
  rw [any_reN]
  unfold anyN
  congr 1
  funext d
  exact re_holds hc hs
theorem popc_or {x y : Nat} (h : ∀ i, ¬ (x.testBit i = true ∧ y.testBit i = true)) (f : Nat) : pop f (x ||| y) = pop f x + pop f y := by
  induction f generalizing x y with
  | zero => rfl
  | succ f ih =>
    simp only [pop]
    have e : (x ||| y) / 2 = x / 2 ||| y / 2 := by
      apply Nat.eq_of_testBit_eq
      intro i
      rw [← Nat.testBit_succ, Nat.testBit_or, Nat.testBit_or, Nat.testBit_succ, Nat.testBit_succ]
    have h' : ∀ i, ¬ ((x / 2).testBit i = true ∧ (y / 2).testBit i = true) := by
      intro i; rw [← Nat.testBit_succ, ← Nat.testBit_succ]; exact h (i + 1)
    rw [e, ih h']
    have h0 := h 0
    have e0 : (x ||| y) % 2 = x % 2 + y % 2 := by
      have hb := Nat.testBit_or x y 0
      simp only [Nat.testBit_zero] at hb h0
      rcases Nat.mod_two_eq_zero_or_one x with h1 | h1 <;> rcases Nat.mod_two_eq_zero_or_one y with h2 | h2 <;> rcases Nat.mod_two_eq_zero_or_one (x ||| y) with h3 | h3 <;> simp [h1, h2, h3] at hb h0 ⊢
    omega
theorem popc_fr {T : Nat} {c : Cn} (hc : okN c) (h : inS T c) : popc (frT T c) + (popc c.1 + popc c.2) = popc T := by
  unfold popc
  rw [← popc_or (fun i => tb0 hc.2.2 i)]
  rw [Nat.add_comm, ← popc_or]
  · congr 1
    apply Nat.eq_of_testBit_eq
    intro i
    unfold frT
    rw [Nat.testBit_or, testBit_ndiff, Nat.testBit_or]
    have := h i
    cases h1 : c.1.testBit i <;> cases h2 : c.2.testBit i <;> simp_all
  · intro i hh
    unfold frT at hh
    rw [testBit_ndiff] at hh
    simp [hh.1] at hh
end Go.Proofs.Ytedopalmfakeaaa
