/- Contracts of functions and lemmas, used by the proofs of the given statements. No condition beyond those that each lemma names. -/
import Derived.Test.YtedopalmfakeaaaCubeC2
namespace Go.Proofs.Ytedopalmfakeaaa
open Go.RowKit
set_option linter.unusedSimpArgs false
set_option linter.unusedVariables false
set_option maxRecDepth 20000
/-! ## Within, Count -/
theorem shr_eq (x v : Nat) : (x : Int) / 2 ^ v = ((x / 2 ^ v : Nat) : Int) := by
  rw [show (2 : Int) ^ v = ((2 ^ v : Nat) : Int) from by simp]
  rfl
end Go.Proofs.Ytedopalmfakeaaa
namespace Go.Proofs.Ytedopalmfakeaaa
open Go.RowKit
set_option linter.unusedSimpArgs false
set_option linter.unusedVariables false
set_option maxRecDepth 20000
/-! ## the reference's Covers and Count: plain -/
def splN (c d : Cn) (s : Nat) : Nat := if apN c d then s else ndiff (d.1 ||| d.2) (c.1 ||| c.2)
/-- what the loop has in split after k cubes -/
def spl (c : Cn) (l : List Cn) : Nat := l.foldl (fun s d => splN c d s) 0
theorem spl_succ (c : Cn) (l : List Cn) (k : Nat) (h : k < l.length) : spl c (l.take (k + 1)) = splN c l[k] (spl c (l.take k)) := by
  unfold spl; rw [List.take_succ_eq_append_getElem h, List.foldl_append]; rfl
theorem apN_comm (a b : Cn) : apN a b = apN b a := by
  rw [Bool.eq_iff_iff, apN_iff, apN_iff]
  constructor <;> rintro ⟨i, h | h⟩ <;> exact ⟨i, by simp [h]⟩
/-- a cube that meets c and has no event beyond c holds all of c -/
theorem meets_within {c d : Cn} (hp : apN c d = false) (h : ndiff (d.1 ||| d.2) (c.1 ||| c.2) = 0) : wiN c d = true := by
  have hn : ¬ apN c d = true := by simp [hp]
  rw [apN_iff] at hn
  rw [wiN_iff]
  intro i
  have h1 := (zero_iff _).1 h i
  rw [testBit_ndiff, Nat.testBit_or, Nat.testBit_or] at h1
  refine ⟨fun h2 => ?_, fun h2 => ?_⟩
  · cases h3 : c.1.testBit i
    · cases h4 : c.2.testBit i
      · simp [h2, h3, h4] at h1
      · exact absurd ⟨i, .inr ⟨h4, h2⟩⟩ hn
    · rfl
  · cases h3 : c.2.testBit i
    · cases h4 : c.1.testBit i
      · simp [h2, h3, h4] at h1
      · exact absurd ⟨i, .inl ⟨h4, h2⟩⟩ hn
    · rfl
theorem spl_zero {c : Cn} {l : List Cn} (hn : ∀ d ∈ l, wiN c d = false) (h : spl c l = 0) : ∀ d ∈ l, apN c d = true := by
  have key : ∀ (m : List Cn) (s : Nat), (∀ d ∈ m, wiN c d = false) → m.foldl (fun s d => splN c d s) s = 0 → s = 0 ∧ ∀ d ∈ m, apN c d = true := by
    intro m
    induction m with
    | nil => intro s _ h; exact ⟨h, by simp⟩
    | cons d m ih =>
      intro s hw h
      obtain ⟨h1, h2⟩ := ih (splN c d s) (fun e he => hw e (by simp [he])) h
      have hd : apN c d = true := by
        cases hp : apN c d
        · rw [splN, if_neg (by simp [hp])] at h1
          have := meets_within hp h1
          rw [hw d (by simp)] at this; cases this
        · rfl
      rw [splN, if_pos hd] at h1
      refine ⟨h1, fun e he => ?_⟩
      rcases List.mem_cons.1 he with h3 | h3
      · rw [h3]; exact hd
      · exact h2 e h3
  exact (key l 0 hn h).2
theorem spl_bits {T : Nat} {c : Cn} {l : List Cn} (hT : ∀ d ∈ l, inS T d) (i : Nat) (h : (spl c l).testBit i = true) : (frT T c).testBit i = true := by
  have key : ∀ (m : List Cn) (s : Nat), (∀ d ∈ m, inS T d) → (∀ i, s.testBit i = true → (frT T c).testBit i = true) → ∀ i, (m.foldl (fun s d => splN c d s) s).testBit i = true → (frT T c).testBit i = true := by
    intro m
    induction m with
    | nil => intro s _ hs; exact hs
    | cons d m ih =>
      intro s hm hs
      refine ih (splN c d s) (fun e he => hm e (by simp [he])) fun i hi => ?_
      unfold splN at hi
      split at hi
      · exact hs i hi
      · unfold frT
        rw [testBit_ndiff, Bool.and_eq_true] at hi ⊢
        refine ⟨hm d (by simp) i ?_, hi.2⟩
        rw [← Bool.or_eq_true, ← Nat.testBit_or]; exact hi.1
  exact key l 0 hT (by simp) i h
theorem spl_lt {c : Cn} {l : List Cn} (hok : ∀ d ∈ l, okN d) : spl c l < 16777216 := by
  have key : ∀ (m : List Cn) (s : Nat), (∀ d ∈ m, okN d) → s < 16777216 → m.foldl (fun s d => splN c d s) s < 16777216 := by
    intro m
    induction m with
    | nil => intro s _ hs; exact hs
    | cons d m ih =>
      intro s hm hs
      refine ih (splN c d s) (fun e he => hm e (by simp [he])) ?_
      unfold splN
      have hd := hm d (by simp)
      split
      · exact hs
      · exact ndiff_lt24 (or_lt24 hd.1 hd.2.1)
  exact key l 0 hok (by omega)
/-- none of the list meets c: no state of c is in it -/
theorem cntC_none {T : Nat} {c : Cn} {l : List Cn} (hc : okN c) (h : ∀ d ∈ l, apN c d = true) : cntC T l c = 0 := by
  unfold cntC
  rw [← @cnt_false 24 (frT T c)]
  refine cnt_congr fun s hs => ?_
  cases h1 : anyN l (s ||| c.1)
  · rfl
  · obtain ⟨d, hd, hh⟩ := List.any_eq_true.1 h1
    have := re_holds (d := d) hc hs
    rw [hh, apN_comm, h d hd] at this
    cases this
/-- one of the list holds all of c -/
theorem cntC_all {T : Nat} {c d : Cn} {l : List Cn} (hc : okN c) (hd : d ∈ l) (h : wiN c d = true) : cntC T l c = 2 ^ popc (frT T c) := by
  unfold cntC
  rw [show 2 ^ popc (frT T c) = 2 ^ pop 24 (frT T c) from rfl, cnt_full]
  intro s hs
  refine anyN_of_mem hd (hoN_within h ?_)
  rw [hoN_iff]
  intro i
  have hfree : s.testBit i = true → c.2.testBit i = false := by
    intro hi
    have := (hs i hi).2
    unfold frT at this
    rw [testBit_ndiff, Nat.testBit_or] at this
    simp at this
    exact this.2.2
  rw [Nat.testBit_or]
  refine ⟨fun h1 => by simp [h1], fun h1 => ?_⟩
  have h2 : c.1.testBit i = false := by
    cases h3 : c.1.testBit i
    · rfl
    · exact absurd ⟨h3, h1⟩ (tb0 hc.2.2 i)
  cases h3 : s.testBit i
  · simp [h2]
  · rw [hfree h3] at h1; cases h1
theorem frT_yes (T : Nat) (c : Cn) (j : Nat) : frT T (c.1 ||| 2 ^ j, c.2) = ndiff (frT T c) (2 ^ j) := by
  apply Nat.eq_of_testBit_eq
  intro i
  unfold frT
  simp only [testBit_ndiff, Nat.testBit_or]
  cases T.testBit i <;> cases c.1.testBit i <;> cases c.2.testBit i <;> cases (2 ^ j).testBit i <;> rfl
theorem frT_no (T : Nat) (c : Cn) (j : Nat) : frT T (c.1, c.2 ||| 2 ^ j) = ndiff (frT T c) (2 ^ j) := by
  apply Nat.eq_of_testBit_eq
  intro i
  unfold frT
  simp only [testBit_ndiff, Nat.testBit_or]
  cases T.testBit i <;> cases c.1.testBit i <;> cases c.2.testBit i <;> cases (2 ^ j).testBit i <;> rfl
theorem cntC_step {T : Nat} {c : Cn} {l : List Cn} {j : Nat} (hj : j < 24) (h : (frT T c).testBit j = true) : cntC T l c = cntC T l (c.1 ||| 2 ^ j, c.2) + cntC T l (c.1, c.2 ||| 2 ^ j) := by
  unfold cntC
  rw [cnt_split hj h, frT_yes, frT_no, Nat.add_comm]
  congr 2
  funext s
  show anyN l (s ||| 2 ^ j ||| c.1) = anyN l (s ||| (c.1 ||| 2 ^ j))
  rw [Nat.or_assoc, Nat.or_comm (2 ^ j)]
theorem covB_step {c : Cn} {l : List Cn} {j : Nat} (hj : j < 24) (h : (frT 16777215 c).testBit j = true) : covB l c = (covB l (c.1 ||| 2 ^ j, c.2) && covB l (c.1, c.2 ||| 2 ^ j)) := by
  have h1 := cntC_step (l := l) hj h
  have h2 := popc_cut hj h
  unfold covB
  rw [frT_yes, frT_no, h1, h2, Nat.pow_succ]
  have l1 : cntC 16777215 l (c.1 ||| 2 ^ j, c.2) ≤ 2 ^ popc (ndiff (frT 16777215 c) (2 ^ j)) := by
    unfold cntC; rw [frT_yes]; exact cnt_le _
  have l2 : cntC 16777215 l (c.1, c.2 ||| 2 ^ j) ≤ 2 ^ popc (ndiff (frT 16777215 c) (2 ^ j)) := by
    unfold cntC; rw [frT_no]; exact cnt_le _
  generalize 2 ^ popc (ndiff (frT 16777215 c) (2 ^ j)) = p at *
  generalize cntC 16777215 l (c.1 ||| 2 ^ j, c.2) = q1 at *
  generalize cntC 16777215 l (c.1, c.2 ||| 2 ^ j) = q2 at *
  rw [Bool.eq_iff_iff, Bool.and_eq_true, beq_iff_eq, beq_iff_eq, beq_iff_eq]
  omega
theorem free_bits {T : Nat} {c : Cn} {j : Nat} (h : (frT T c).testBit j = true) : c.1.testBit j = false ∧ c.2.testBit j = false := by
  unfold frT at h
  rw [testBit_ndiff, Nat.testBit_or] at h
  simp at h
  exact h.2
theorem covB_all {c d : Cn} {l : List Cn} (hc : okN c) (hd : d ∈ l) (h : wiN c d = true) : covB l c = true := by
  unfold covB
  rw [cntC_all hc hd h]; simp
theorem covB_none {c : Cn} {l : List Cn} (hc : okN c) (h : ∀ d ∈ l, apN c d = true) : covB l c = false := by
  unfold covB
  rw [cntC_none hc h]
  have := Nat.two_pow_pos (popc (frT 16777215 c))
  rw [beq_eq_false_iff_ne]; omega
end Go.Proofs.Ytedopalmfakeaaa
