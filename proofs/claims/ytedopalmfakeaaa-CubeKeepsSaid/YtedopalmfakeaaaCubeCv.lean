/- Contracts of functions and lemmas, used by the proofs of the given statements. No condition beyond those that each lemma names. -/
import Derived.Test.YtedopalmfakeaaaCubeC7
namespace Go.Proofs.Ytedopalmfakeaaa
open Go.RowKit
set_option linter.unusedVariables false
/-! ## Cover: plain -/
def nxt (rest : List Cn) (b : Cn) : List Cn := rest.flatMap fun x => miN x b
def rstN : List Cn → List Cn → Option (List Cn)
  | rest, [] => some rest
  | rest, b :: bs => if 1024 < (nxt rest b).length then none else rstN (nxt rest b) bs
def cvF : List Cn → List Cn → List Cn → Option (List Cn)
  | _, [], out => some out
  | pre, c :: cs, out => match rstN [c] pre with
    | none => none
    | some r => if 1024 < (out ++ r).length then none else cvF (pre ++ [c]) cs (out ++ r)
def coverN (l : List Cn) : Option (List Cn) := cvF [] l []
theorem anyN_append (l m : List Cn) (s : Nat) : anyN (l ++ m) s = (anyN l s || anyN m s) := by simp [anyN]
theorem anyN_one (c : Cn) (s : Nat) : anyN [c] s = hoN c s := by simp [anyN]
theorem anyN_cons (c : Cn) (l : List Cn) (s : Nat) : anyN (c :: l) s = (hoN c s || anyN l s) := by simp [anyN]
theorem nxt_ok {rest : List Cn} {b : Cn} (h : ∀ x ∈ rest, okN x) (hb : okN b) : ∀ x ∈ nxt rest b, okN x := by
  intro x hx
  obtain ⟨y, hy, hxy⟩ := List.mem_flatMap.1 hx
  exact miN_ok (h y hy) hb x hxy
theorem nxt_le (rest : List Cn) (b : Cn) : (nxt rest b).length ≤ 24 * rest.length := by
  induction rest with
  | nil => simp [nxt]
  | cons x rest ih =>
    have h1 := miN_le x b
    simp only [nxt, List.flatMap_cons, List.length_append, List.length_cons] at *
    omega
theorem nxt_succ (rest : List Cn) (b : Cn) (k : Nat) (h : k < rest.length) : nxt (rest.take (k + 1)) b = nxt (rest.take k) b ++ miN rest[k] b := by
  unfold nxt
  rw [List.take_succ_eq_append_getElem h, List.flatMap_append]
  simp
theorem nxt_take_le (rest : List Cn) (b : Cn) (k : Nat) : (nxt (rest.take k) b).length ≤ (nxt rest b).length := by
  have e := List.take_append_drop k rest
  have : nxt rest b = nxt (rest.take k) b ++ nxt (rest.drop k) b := by
    unfold nxt
    rw [← List.flatMap_append, e]
  rw [this, List.length_append]; omega
theorem inN_nxt (rest : List Cn) {b : Cn} (hb : okN b) (s : Nat) : inN (nxt rest b) s = if hoN b s then 0 else inN rest s := by
  induction rest with
  | nil => simp [nxt, inN]
  | cons x rest ih =>
    have e : nxt (x :: rest) b = miN x b ++ nxt rest b := by simp [nxt]
    rw [e, inN_append, ih, miN_in x b hb s, inN_cons]
    cases hoN x s <;> cases hoN b s <;> simp
theorem rst_in {pre : List Cn} (hpre : ∀ b ∈ pre, okN b) : ∀ {rest r : List Cn}, rstN rest pre = some r → ∀ s, inN r s = if anyN pre s then 0 else inN rest s := by
  induction pre with
  | nil => intro rest r h s; simp only [rstN] at h; injection h with h; subst h; simp [anyN]
  | cons b bs ih =>
    intro rest r h s
    simp only [rstN] at h
    split at h
    · cases h
    · rw [ih (fun x hx => hpre x (by simp [hx])) h s, inN_nxt rest (hpre b (by simp)) s]
      rw [anyN_cons]
      by_cases h1 : hoN b s = true <;> simp [h1]
theorem rst_ok {pre : List Cn} (hpre : ∀ b ∈ pre, okN b) : ∀ {rest r : List Cn}, (∀ x ∈ rest, okN x) → rstN rest pre = some r → ∀ x ∈ r, okN x := by
  induction pre with
  | nil => intro rest r h1 h; simp only [rstN] at h; injection h with h; subst h; exact h1
  | cons b bs ih =>
    intro rest r h1 h
    simp only [rstN] at h
    split at h
    · cases h
    · exact ih (fun x hx => hpre x (by simp [hx])) (nxt_ok h1 (hpre b (by simp))) h
theorem rst_len {pre : List Cn} : ∀ {rest r : List Cn}, rest.length ≤ 1024 → rstN rest pre = some r → r.length ≤ 1024 := by
  induction pre with
  | nil => intro rest r h1 h; simp only [rstN] at h; injection h with h; subst h; exact h1
  | cons b bs ih =>
    intro rest r h1 h
    simp only [rstN] at h
    split at h
    · cases h
    · exact ih (by omega) h
theorem cvF_in {cs : List Cn} : ∀ {pre out o : List Cn}, (∀ b ∈ pre, okN b) → (∀ b ∈ cs, okN b) → cvF pre cs out = some o → ∀ s, inN o s = inN out s + (if anyN pre s then 0 else if anyN cs s then 1 else 0) := by
  induction cs with
  | nil => intro pre out o _ _ h s; simp only [cvF] at h; injection h with h; subst h; cases anyN pre s <;> simp [anyN]
  | cons c cs ih =>
    intro pre out o hpre hcs h s
    simp only [cvF] at h
    split at h
    · cases h
    · rename_i r hr
      split at h
      · cases h
      · have h1 := ih (pre := pre ++ [c]) (out := out ++ r) (fun b hb => by
          rcases List.mem_append.1 hb with hb | hb
          · exact hpre b hb
          · rw [List.mem_singleton.1 hb]; exact hcs c (by simp)) (fun b hb => hcs b (by simp [hb])) h s
        rw [h1, inN_append, rst_in hpre hr s, anyN_append, anyN_one, anyN_cons, inN_one]
        cases anyN pre s <;> cases hoN c s <;> cases anyN cs s <;> simp
theorem coverN_in {l o : List Cn} (hl : ∀ b ∈ l, okN b) (h : coverN l = some o) (s : Nat) : inN o s = if anyN l s then 1 else 0 := by
  rw [cvF_in (by simp) hl h s]; simp [inN, anyN]
theorem cvF_ok {cs : List Cn} : ∀ {pre out o : List Cn}, (∀ b ∈ pre, okN b) → (∀ b ∈ cs, okN b) → (∀ b ∈ out, okN b) → out.length ≤ 1024 → cvF pre cs out = some o → (∀ b ∈ o, okN b) ∧ o.length ≤ 1024 := by
  induction cs with
  | nil => intro pre out o _ _ h1 h2 h; simp only [cvF] at h; injection h with h; subst h; exact ⟨h1, h2⟩
  | cons c cs ih =>
    intro pre out o hpre hcs h1 h2 h
    simp only [cvF] at h
    split at h
    · cases h
    · rename_i r hr
      split at h
      · cases h
      · refine ih (fun b hb => ?_) (fun b hb => hcs b (by simp [hb])) (fun b hb => ?_) (by omega) h
        · rcases List.mem_append.1 hb with hb | hb
          · exact hpre b hb
          · rw [List.mem_singleton.1 hb]; exact hcs c (by simp)
        · rcases List.mem_append.1 hb with hb | hb
          · exact h1 b hb
          · exact rst_ok hpre (by intro x hx; rw [List.mem_singleton.1 hx]; exact hcs c (by simp)) hr b hb
theorem coverN_ok {l o : List Cn} (hl : ∀ b ∈ l, okN b) (h : coverN l = some o) : (∀ b ∈ o, okN b) ∧ o.length ≤ 1024 := cvF_ok (by simp) hl (by simp) (by simp) h
theorem cvF_step {l out r : List Cn} {k : Nat} (hk : k < l.length) (hr : rstN [l[k]] (l.take k) = some r) (hlen : ¬ 1024 < (out ++ r).length) : cvF (l.take k) (l.drop k) out = cvF (l.take (k + 1)) (l.drop (k + 1)) (out ++ r) := by
  rw [List.drop_eq_getElem_cons hk, List.take_succ_eq_append_getElem hk]
  simp only [cvF, hr]
  rw [if_neg hlen]
theorem cvF_none {l out : List Cn} {k : Nat} (hk : k < l.length) (hr : rstN [l[k]] (l.take k) = none) : cvF (l.take k) (l.drop k) out = none := by
  rw [List.drop_eq_getElem_cons hk]
  simp only [cvF, hr]
theorem cvF_long {l out r : List Cn} {k : Nat} (hk : k < l.length) (hr : rstN [l[k]] (l.take k) = some r) (hlen : 1024 < (out ++ r).length) : cvF (l.take k) (l.drop k) out = none := by
  rw [List.drop_eq_getElem_cons hk]
  simp only [cvF, hr]
  rw [if_pos hlen]
theorem cvF_end {l out : List Cn} {k : Nat} (hk : l.length ≤ k) : cvF (l.take k) (l.drop k) out = some out := by
  rw [List.drop_eq_nil_of_le hk]; rfl
theorem rst_step {pre rest : List Cn} {j : Nat} (hj : j < pre.length) (h : ¬ 1024 < (nxt rest pre[j]).length) : rstN rest (pre.drop j) = rstN (nxt rest pre[j]) (pre.drop (j + 1)) := by
  rw [List.drop_eq_getElem_cons hj]
  simp only [rstN]
  rw [if_neg h]
theorem rst_long {pre rest : List Cn} {j : Nat} (hj : j < pre.length) (h : 1024 < (nxt rest pre[j]).length) : rstN rest (pre.drop j) = none := by
  rw [List.drop_eq_getElem_cons hj]
  simp only [rstN]
  rw [if_pos h]
theorem rst_end {pre rest : List Cn} {j : Nat} (hj : pre.length ≤ j) : rstN rest (pre.drop j) = some rest := by
  rw [List.drop_eq_nil_of_le hj]; rfl

/-! ## the events of what is covered -/
theorem inS_or {T x y k : Nat} (h : inS T (x, y)) (hk : T.testBit k = true) : inS T (x ||| 2 ^ k, y) ∧ inS T (x, y ||| 2 ^ k) := by
  constructor <;> intro i hi
  · by_cases e : k = i
    · subst e; exact hk
    · simp only [Nat.testBit_or, Nat.testBit_two_pow, e, decide_false, Bool.or_false] at hi
      exact h i hi
  · by_cases e : k = i
    · subst e; exact hk
    · simp only [Nat.testBit_or, Nat.testBit_two_pow, e, decide_false, Bool.or_false] at hi
      exact h i hi
theorem mto_inS {T : Nat} {a b : Cn} (ha : inS T a) (hb : inS T b) (k : Nat) : inS T (mto a b k).1 ∧ ∀ c ∈ (mto a b k).2, inS T c := by
  induction k with
  | zero => exact ⟨ha, by simp [mto]⟩
  | succ k ih =>
    rw [mto_succ]
    generalize mto a b k = m at *
    obtain ⟨⟨x, y⟩, l⟩ := m
    obtain ⟨h1, h2⟩ := ih
    unfold mst
    split
    · rename_i h
      simp only [Bool.and_eq_true] at h
      have ht := hb k (.inl h.1)
      have hh := inS_or h1 ht
      refine ⟨hh.1, fun c hc => ?_⟩
      rcases List.mem_append.1 hc with hc | hc
      · exact h2 c hc
      · rw [List.mem_singleton.1 hc]; exact hh.2
    · split
      · rename_i _ h
        simp only [Bool.and_eq_true] at h
        have ht := hb k (.inr h.1)
        have hh := inS_or h1 ht
        refine ⟨hh.2, fun c hc => ?_⟩
        rcases List.mem_append.1 hc with hc | hc
        · exact h2 c hc
        · rw [List.mem_singleton.1 hc]; exact hh.1
      · exact ⟨h1, h2⟩
theorem miN_inS {T : Nat} {a b : Cn} (ha : inS T a) (hb : inS T b) : ∀ c ∈ miN a b, inS T c := by
  unfold miN
  split
  · intro c hc; rw [List.mem_singleton.1 hc]; exact ha
  · exact (mto_inS ha hb 24).2
theorem rst_inS {T : Nat} {pre : List Cn} (hpre : ∀ b ∈ pre, inS T b) : ∀ {rest r : List Cn}, (∀ x ∈ rest, inS T x) → rstN rest pre = some r → ∀ x ∈ r, inS T x := by
  induction pre with
  | nil => intro rest r h1 h; simp only [rstN] at h; injection h with h; subst h; exact h1
  | cons b bs ih =>
    intro rest r h1 h
    simp only [rstN] at h
    split at h
    · cases h
    · refine ih (fun x hx => hpre x (by simp [hx])) (fun x hx => ?_) h
      obtain ⟨y, hy, hxy⟩ := List.mem_flatMap.1 hx
      exact miN_inS (h1 y hy) (hpre b (by simp)) x hxy
theorem cvF_inS {T : Nat} {cs : List Cn} : ∀ {pre out o : List Cn}, (∀ b ∈ pre, inS T b) → (∀ b ∈ cs, inS T b) → (∀ b ∈ out, inS T b) → cvF pre cs out = some o → ∀ b ∈ o, inS T b := by
  induction cs with
  | nil => intro pre out o _ _ h1 h; simp only [cvF] at h; injection h with h; subst h; exact h1
  | cons c cs ih =>
    intro pre out o hpre hcs h1 h
    simp only [cvF] at h
    split at h
    · cases h
    · rename_i r hr
      split at h
      · cases h
      · refine ih (fun b hb => ?_) (fun b hb => hcs b (by simp [hb])) (fun b hb => ?_) h
        · rcases List.mem_append.1 hb with hb | hb
          · exact hpre b hb
          · rw [List.mem_singleton.1 hb]; exact hcs c (by simp)
        · rcases List.mem_append.1 hb with hb | hb
          · exact h1 b hb
          · exact rst_inS hpre (by intro x hx; rw [List.mem_singleton.1 hx]; exact hcs c (by simp)) hr b hb
theorem coverN_inS {T : Nat} {l o : List Cn} (hl : ∀ b ∈ l, inS T b) (h : coverN l = some o) : ∀ b ∈ o, inS T b := cvF_inS (by simp) hl (by simp) h

/-! ## how many states a cube has -/
theorem popc_ne {x : Nat} (hx : x < 16777216) (h : popc x ≠ 0) : ∃ j, j < 24 ∧ x.testBit j = true := by
  have hne : x ≠ 0 := by rintro rfl; exact h (pop_zero 24)
  have : ¬ ∀ i, x.testBit i = false := fun h1 => hne ((zero_iff x).2 h1)
  obtain ⟨j, hj⟩ := Classical.not_forall.1 this
  have hj' : x.testBit j = true := by simpa using hj
  exact ⟨j, lt24_bit hx hj', hj'⟩
theorem hoN_off {x y j s : Nat} (hx : x.testBit j = true) (hs : s.testBit j = false) : hoN (x, y) s = false := by
  cases h : hoN (x, y) s
  · rfl
  · have := ((hoN_iff _ _).1 h j).1 hx
    rw [hs] at this; cases this
theorem hoN_off2 {x y j s : Nat} (hy : y.testBit j = true) (hs : s.testBit j = true) : hoN (x, y) s = false := by
  cases h : hoN (x, y) s
  · rfl
  · have := ((hoN_iff _ _).1 h j).2 hy
    rw [hs] at this; cases this
theorem or_bit (s j : Nat) : (s ||| 2 ^ j).testBit j = true := by simp
theorem or_bit_ne {s j i : Nat} (h : j ≠ i) : (s ||| 2 ^ j).testBit i = s.testBit i := by simp [Nat.testBit_or, Nat.testBit_two_pow, h]
theorem ndiff_bit_ne {s j i : Nat} (h : j ≠ i) : (ndiff s (2 ^ j)).testBit i = s.testBit i := by simp [testBit_ndiff, Nat.testBit_two_pow, h]
theorem ndiff_bit (s j : Nat) : (ndiff s (2 ^ j)).testBit j = false := by simp [testBit_ndiff]
theorem hoN_yes1 {x y j s : Nat} (hx : x.testBit j = true) (hy : y.testBit j = false) (hs : s.testBit j = false) : hoN (x, y) (s ||| 2 ^ j) = hoN (ndiff x (2 ^ j), y) s := by
  rw [Bool.eq_iff_iff, hoN_iff, hoN_iff]
  constructor
  · intro h i
    by_cases e : j = i
    · subst e; exact ⟨(fun h1 => by have h2 : (ndiff x (2 ^ j)).testBit j = true := h1; rw [ndiff_bit] at h2; cases h2), (fun h1 => by have h2 : y.testBit j = true := h1; rw [hy] at h2; cases h2)⟩
    · have := h i; rw [or_bit_ne e] at this
      exact ⟨fun h1 => this.1 (by have h2 : (ndiff x (2 ^ j)).testBit i = true := h1; rwa [ndiff_bit_ne e] at h2), this.2⟩
  · intro h i
    by_cases e : j = i
    · subst e; exact ⟨fun _ => or_bit _ _, (fun h1 => by have h2 : y.testBit j = true := h1; rw [hy] at h2; cases h2)⟩
    · have := h i; rw [or_bit_ne e]
      exact ⟨fun h1 => this.1 (by show (ndiff x (2 ^ j)).testBit i = true; rwa [ndiff_bit_ne e]), this.2⟩
theorem hoN_no1 {x y j s : Nat} (hx : x.testBit j = false) (hs : s.testBit j = false) : hoN (x, y) s = hoN (x, ndiff y (2 ^ j)) s := by
  rw [Bool.eq_iff_iff, hoN_iff, hoN_iff]
  constructor
  · intro h i
    by_cases e : j = i
    · subst e; exact ⟨fun h1 => (h j).1 h1, fun _ => hs⟩
    · exact ⟨(h i).1, fun h1 => (h i).2 (by have h2 : (ndiff y (2 ^ j)).testBit i = true := h1; rwa [ndiff_bit_ne e] at h2)⟩
  · intro h i
    by_cases e : j = i
    · subst e; exact ⟨fun h1 => (h j).1 h1, fun _ => hs⟩
    · exact ⟨(h i).1, fun h1 => (h i).2 (by show (ndiff y (2 ^ j)).testBit i = true; rwa [ndiff_bit_ne e])⟩
theorem fr_yes {T x y j : Nat} (hx : x.testBit j = true) (hT : T.testBit j = true) (hy : y.testBit j = false) : frT (ndiff T (2 ^ j)) (ndiff x (2 ^ j), y) = frT T (x, y) := by
  apply Nat.eq_of_testBit_eq
  intro i
  by_cases e : j = i
  · subst e; simp [frT, testBit_ndiff, Nat.testBit_or, hx]
  · simp [frT, testBit_ndiff, Nat.testBit_or, Nat.testBit_two_pow, e]
theorem fr_no {T x y j : Nat} (hy : y.testBit j = true) (hT : T.testBit j = true) : frT (ndiff T (2 ^ j)) (x, ndiff y (2 ^ j)) = frT T (x, y) := by
  apply Nat.eq_of_testBit_eq
  intro i
  by_cases e : j = i
  · subst e; simp [frT, testBit_ndiff, Nat.testBit_or, hy]
  · simp [frT, testBit_ndiff, Nat.testBit_or, Nat.testBit_two_pow, e]
theorem okN_nd1 {x y j : Nat} (h : okN (x, y)) : okN (ndiff x (2 ^ j), y) := by
  refine ⟨ndiff_lt24 h.1, h.2.1, dis fun i hi => ?_⟩
  have h1 : x.testBit i = true := by
    have := hi.1; simp only [] at this; rw [testBit_ndiff, Bool.and_eq_true] at this; exact this.1
  exact tb0 h.2.2 i ⟨h1, hi.2⟩
theorem okN_nd2 {x y j : Nat} (h : okN (x, y)) : okN (x, ndiff y (2 ^ j)) := by
  refine ⟨h.1, ndiff_lt24 h.2.1, dis fun i hi => ?_⟩
  have h1 : y.testBit i = true := by
    have := hi.2; simp only [] at this; rw [testBit_ndiff, Bool.and_eq_true] at this; exact this.1
  exact tb0 h.2.2 i ⟨hi.1, h1⟩
theorem cnt_cube (n : Nat) : ∀ (T x y : Nat), popc x + popc y = n → okN (x, y) → inS T (x, y) → cnt 24 T (hoN (x, y)) = 2 ^ popc (frT T (x, y)) := by
  induction n with
  | zero =>
    intro T x y hn hok hin
    have h1 : x = 0 := pop_none (f := 24) hok.1 (show popc x = 0 by omega)
    have h2 : y = 0 := pop_none (f := 24) hok.2.1 (show popc y = 0 by omega)
    subst h1 h2
    have e : frT T (0, 0) = T := by
      apply Nat.eq_of_testBit_eq; intro i; simp [frT, testBit_ndiff]
    rw [e, show 2 ^ popc T = 2 ^ pop 24 T from rfl, ← cnt_true]
    exact cnt_congr fun s _ => hoN_00 s
  | succ n ih =>
    intro T x y hn hok hin
    by_cases hx0 : popc x = 0
    · obtain ⟨j, hj, hyj⟩ := popc_ne (x := y) hok.2.1 (show popc y ≠ 0 by omega)
      have hxj : x.testBit j = false := by
        cases h : x.testBit j
        · rfl
        · exact absurd ⟨h, hyj⟩ (tb0 hok.2.2 j)
      have hT := hin j (.inr hyj)
      have hp := popc_cut hj hyj
      rw [cnt_split hj hT]
      have e2 : cnt 24 (ndiff T (2 ^ j)) (fun s => hoN (x, y) (s ||| 2 ^ j)) = 0 := by
        rw [← @cnt_false 24 (ndiff T (2 ^ j))]
        exact cnt_congr fun s hs => hoN_off2 hyj (or_bit s j)
      have e1 : cnt 24 (ndiff T (2 ^ j)) (hoN (x, y)) = cnt 24 (ndiff T (2 ^ j)) (hoN (x, ndiff y (2 ^ j))) :=
        cnt_congr fun s hs => hoN_no1 hxj (isSt_cut hs)
      rw [e2, e1, ih (ndiff T (2 ^ j)) x (ndiff y (2 ^ j)) (by omega) (okN_nd2 hok) (fun i hi => by
        by_cases e : j = i
        · subst e; simp only [ndiff_bit, hxj] at hi; simp at hi
        · simp only [ndiff_bit_ne e] at hi; rw [ndiff_bit_ne e]; exact hin i hi), fr_no hyj hT]
      rfl
    · obtain ⟨j, hj, hxj⟩ := popc_ne (x := x) hok.1 hx0
      have hyj : y.testBit j = false := by
        cases h : y.testBit j
        · rfl
        · exact absurd ⟨hxj, h⟩ (tb0 hok.2.2 j)
      have hT := hin j (.inl hxj)
      have hp := popc_cut hj hxj
      rw [cnt_split hj hT]
      have e1 : cnt 24 (ndiff T (2 ^ j)) (hoN (x, y)) = 0 := by
        rw [← @cnt_false 24 (ndiff T (2 ^ j))]
        exact cnt_congr fun s hs => hoN_off hxj (isSt_cut hs)
      have e2 : cnt 24 (ndiff T (2 ^ j)) (fun s => hoN (x, y) (s ||| 2 ^ j)) = cnt 24 (ndiff T (2 ^ j)) (hoN (ndiff x (2 ^ j), y)) :=
        cnt_congr fun s hs => hoN_yes1 hxj hyj (isSt_cut hs)
      rw [e1, e2, ih (ndiff T (2 ^ j)) (ndiff x (2 ^ j)) y (by omega) (okN_nd1 hok) (fun i hi => by
        by_cases e : j = i
        · subst e; simp only [ndiff_bit, hyj] at hi; simp at hi
        · simp only [ndiff_bit_ne e] at hi; rw [ndiff_bit_ne e]; exact hin i hi), fr_yes hxj hT hyj, Nat.zero_add]
/-- the numbers of states of disjoint cubes add up -/
def sumC (T : Nat) (o : List Cn) : Nat := (o.map fun a => 2 ^ popc (frT T a)).sum
theorem sumC_eq {T : Nat} {o : List Cn} (hok : ∀ a ∈ o, okN a) (hin : ∀ a ∈ o, inS T a) (h1 : ∀ s, inN o s ≤ 1) : sumC T o = cnt 24 T (anyN o) := by
  induction o with
  | nil => simp only [sumC, List.map_nil, List.sum_nil]; rw [← @cnt_false 24 T]; rfl
  | cons a o ih =>
    have h2 : ∀ s, inN o s ≤ 1 := fun s => by have := h1 s; rw [inN_cons] at this; omega
    have := ih (fun b hb => hok b (by simp [hb])) (fun b hb => hin b (by simp [hb])) h2
    simp only [sumC, List.map_cons, List.sum_cons] at this ⊢
    rw [this, ← cnt_cube _ T a.1 a.2 rfl (hok a (by simp)) (hin a (by simp))]
    symm
    refine cnt_add fun s _ => ?_
    have h3 := h1 s
    rw [inN_cons] at h3
    rw [anyN_cons]
    cases ha : hoN a s
    · simp
    · cases ho : anyN o s
      · simp
      · exfalso
        obtain ⟨d, hd, hh⟩ := List.any_eq_true.1 ho
        have : 0 < inN o s := List.length_pos_iff_exists_mem.2 ⟨d, List.mem_filter.2 ⟨hd, hh⟩⟩
        rw [ha] at h3
        simp at h3
        omega
theorem anyN_inN (l : List Cn) (s : Nat) : anyN l s = decide (0 < inN l s) := by
  rw [Bool.eq_iff_iff, decide_eq_true_eq]
  unfold anyN inN
  rw [List.any_eq_true, List.length_pos_iff_exists_mem]
  constructor
  · rintro ⟨d, hd, hh⟩; exact ⟨d, List.mem_filter.2 ⟨hd, hh⟩⟩
  · rintro ⟨d, hd⟩; exact ⟨d, (List.mem_filter.1 hd).1, (List.mem_filter.1 hd).2⟩
theorem coverN_sum {T : Nat} {l o : List Cn} (hok : ∀ a ∈ l, okN a) (hin : ∀ a ∈ l, inS T a) (h : coverN l = some o) : sumC T o = cnt 24 T (anyN l) := by
  have h1 := coverN_in hok h
  rw [sumC_eq (coverN_ok hok h).1 (coverN_inS hin h) fun s => by rw [h1]; split <;> omega]
  refine cnt_congr fun s _ => ?_
  rw [anyN_inN, h1]
  cases anyN l s <;> rfl
theorem sumC_succ (T : Nat) (o : List Cn) (k : Nat) (h : k < o.length) : sumC T (o.take (k + 1)) = sumC T (o.take k) + 2 ^ popc (frT T o[k]) := by
  unfold sumC
  rw [List.take_succ_eq_append_getElem h, List.map_append, List.sum_append]; simp
theorem sumC_le (T : Nat) (o : List Cn) : sumC T o ≤ 16777216 * o.length := by
  induction o with
  | nil => simp [sumC]
  | cons a o ih =>
    have : 2 ^ popc (frT T a) ≤ 2 ^ 24 := Nat.pow_le_pow_right (by omega) (popc_le _)
    simp only [sumC, List.map_cons, List.sum_cons, List.length_cons] at *
    omega
/-- what covers all the states of the list's own events covers all -/
theorem cover_all {T : Nat} {l : List Cn} (hT : T < 16777216) (hok : ∀ a ∈ l, okN a) (hin : ∀ a ∈ l, inS T a) : covB l (0, 0) = (cnt 24 T (anyN l) == 2 ^ popc T) := by
  have e0 : frT 16777215 (0, 0) = 16777215 := by
    apply Nat.eq_of_testBit_eq; intro i; simp [frT, testBit_ndiff]
  have e1 : cntC 16777215 l (0, 0) = cnt 24 16777215 (anyN l) := by
    unfold cntC; rw [e0]; congr 1; funext s; simp
  unfold covB
  rw [e1, e0, Bool.eq_iff_iff, beq_iff_eq, beq_iff_eq]
  rw [show 2 ^ popc 16777215 = 2 ^ pop 24 16777215 from rfl, show 2 ^ popc T = 2 ^ pop 24 T from rfl, cnt_full, cnt_full]
  have hfull : ∀ i, i < 24 → Nat.testBit 16777215 i = true := by
    intro i hi
    rw [show (16777215 : Nat) = 2 ^ 24 - 1 from rfl, Nat.testBit_two_pow_sub_one]; simpa using hi
  constructor
  · intro h s hs
    exact h s fun i hi => ⟨(hs i hi).1, hfull i (hs i hi).1⟩
  · intro h s hs
    have h1 : isSt 24 T (s &&& T) := fun i hi => by
      rw [Nat.testBit_and, Bool.and_eq_true] at hi
      exact ⟨(hs i hi.1).1, hi.2⟩
    obtain ⟨d, hd, hh⟩ := List.any_eq_true.1 (h _ h1)
    refine anyN_of_mem hd ?_
    rw [hoN_iff] at hh ⊢
    intro i
    have := hh i
    rw [Nat.testBit_and] at this
    constructor
    · intro h2; have := this.1 h2; rw [Bool.and_eq_true] at this; exact this.1
    · intro h2
      have h3 := this.2 h2
      have h4 := hin d hd i (.inr h2)
      rw [h4] at h3; simpa using h3
attribute [irreducible] sumC
end Go.Proofs.Ytedopalmfakeaaa
