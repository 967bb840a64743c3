/- Contracts of functions and lemmas, used by the proofs of the given statements. No condition beyond those that each lemma names. -/
import Derived.Test.YtlncafhgmbhocaaGreatDoorLawTrV
import Derived.Test.YtlncafhgmbhocaaGreatDoorJLawTr
import Derived.Test.YtlncafhgmbhocaaGreatDoorJTrZ
import Derived.Test.YtlncafhgmbhocaaGreatDoorJBase
import Derived.Test.YtlncafhgmbhocaaGreatDoorJOpenNum
import Derived.Test.YtlncafhgmbhocaaGreatDoorJAbQ
import Derived.Test.YtlncafhgmbhocaaGreatDoorLinMk
namespace Go.Proofs.YtlncafhgmbhocaaGreatDoor
open Go.RowKit
set_option linter.unusedSimpArgs false
set_option linter.unusedVariables false
set_option maxRecDepth 20000
attribute [local irreducible] nv wp win plainB validR valR canR mvE chkM codeC exK maxF dsum
/-! ## TransientSums -/
theorem ValP.okc {c : Chn} {r : Rw} (h : ValP c r) : c.Ok ∧ 0 < valR r ∧ c.fast ≤ valR r :=
  ⟨(Chn.codeR_ok h.code).1, (Chn.codeR_0 h.code).2⟩
end Go.Proofs.YtlncafhgmbhocaaGreatDoor
namespace Go.Proofs.YtlncafhgmbhocaaGreatDoor
set_option linter.unusedSimpArgs false
set_option linter.unusedVariables false
/-! ## the quotient by single states is the chain itself (plain) -/
def lexP (x y : Nat × Nat) : Prop := x.1 < y.1 ∨ x.1 = y.1 ∧ x.2 < y.2
section
variable {F T : Nat → Nat} {q : Nat → Rat} {nm n : Nat} {p : Nat → Nat}
theorem movB_sorted (m : Nat) : (movB F T q nm n p m).Pairwise lexP := by
  unfold movB
  rw [List.pairwise_flatMap]
  refine ⟨fun a _ => ?_, ?_⟩
  · rw [List.pairwise_filterMap]
    refine List.Pairwise.imp ?_ (List.pairwise_lt_range (n := m))
    intro b b' hlt x hx y hy
    split at hx
    · split at hy
      · injection hx with hx
        injection hy with hy
        subst hx hy
        exact .inr ⟨rfl, hlt⟩
      · cases hy
    · cases hx
  · refine List.Pairwise.imp ?_ (List.pairwise_lt_range (n := m))
    intro a a' hlt x hx y hy
    rw [List.mem_filterMap] at hx hy
    obtain ⟨b, -, hb⟩ := hx
    obtain ⟨b', -, hb'⟩ := hy
    split at hb
    · split at hb'
      · injection hb with hb
        injection hb' with hb'
        subst hb hb'
        exact .inl hlt
      · cases hb'
    · cases hb
end
section
variable {c : Chn}
end
end Go.Proofs.YtlncafhgmbhocaaGreatDoor
namespace Go.Proofs.YtlncafhgmbhocaaGreatDoor
set_option linter.unusedSimpArgs false
set_option linter.unusedVariables false
/-! ## what the loops of package lump compute (plain) -/
section
variable {F T : Nat → Nat} {q : Nat → Rat} {nm n : Nat} {p : Nat → Nat} {R : Nat → Nat → Bool}
/-- the first place of m at which B holds, or -1 -/
def IsIdx (B : Nat → Bool) (m : Nat) (r : Int) : Prop := (r = -1 ∧ ∀ j, j < m → B j = false) ∨ ∃ j : Nat, r = (j : Int) ∧ j < m ∧ B j = true ∧ ∀ i, i < j → B i = false
theorem IsIdx.congr {B C : Nat → Bool} {m : Nat} {r : Int} (h : IsIdx B m r) (e : ∀ j, j < m → B j = C j) : IsIdx C m r := by
  rcases h with ⟨h1, h2⟩ | ⟨j, h1, h2, h3, h4⟩
  · exact .inl ⟨h1, fun j hj => by rw [← e j hj]; exact h2 j hj⟩
  · exact .inr ⟨j, h1, h2, by rw [← e j h2]; exact h3, fun i hi => by rw [← e i (by omega)]; exact h4 i hi⟩
/-- a state is the first of its block, or its block's number is found -/
theorem idx_step (h : Eqv R) {k : Nat} (hk : k < n) {r : Int} (hr : IsIdx (fun j => R (ixB (isF R) n j) k) (cntB (isF R) k) r) :
    (isF R k = true ∧ r = -1 ∧ nrm R k = cntB (isF R) k ∧ cntB (isF R) (k + 1) = cntB (isF R) k + 1 ∧ ixB (isF R) n (cntB (isF R) k) = k) ∨ (isF R k = false ∧ r = (nrm R k : Int) ∧ cntB (isF R) (k + 1) = cntB (isF R) k) := by
  have hs : ∀ j, j < cntB (isF R) k → ixB (isF R) n j = ixB (isF R) k j := fun j hj => ixB_stay (by omega) hj
  cases hf : isF R k
  · right
    refine ⟨rfl, ?_, cntB_no hf⟩
    obtain ⟨h1, h2, h3⟩ := ixF_old h hf
    rcases hr with ⟨-, hr⟩ | ⟨j, e, hj, hb, -⟩
    · have := hr _ h1
      simp only [hs _ h1] at this
      rw [h2] at this
      cases this
    · rw [e, h3 j hj (by rw [← hs j hj]; exact hb)]
  · left
    obtain ⟨h1, h2⟩ := ixF_new h hf
    refine ⟨rfl, ?_, h1, cntB_yes hf, ixB_new hk hf⟩
    rcases hr with ⟨e, -⟩ | ⟨j, e, hj, hb, -⟩
    · exact e
    · simp only [hs j hj] at hb
      rw [h2 j hj] at hb
      cases hb
/-- the sums of the rates into the blocks, after k moves -/
def smK (F T : Nat → Nat) (q : Nat → Rat) (p : Nat → Nat) : Nat → Nat → Nat → Rat
  | 0 => fun _ _ => 0
  | k + 1 => fun i j => if p (T k) ≠ p (F k) ∧ i = F k ∧ j = p (T k) then smK F T q p k i j + q k else smK F T q p k i j
theorem smK_same {k : Nat} (h : p (T k) = p (F k)) : smK F T q p (k + 1) = smK F T q p k := by
  funext i j
  show (if p (T k) ≠ p (F k) ∧ i = F k ∧ j = p (T k) then smK F T q p k i j + q k else smK F T q p k i j) = _
  rw [if_neg (fun e => e.1 h)]
theorem smK_new {k : Nat} (h : p (T k) ≠ p (F k)) : smK F T q p (k + 1) = upd (smK F T q p k) (F k) (upd (smK F T q p k (F k)) (p (T k)) (smK F T q p k (F k) (p (T k)) + q k)) := by
  funext i j
  show (if p (T k) ≠ p (F k) ∧ i = F k ∧ j = p (T k) then smK F T q p k i j + q k else smK F T q p k i j) = _
  unfold upd
  by_cases h1 : i = F k
  · rw [if_pos h1]
    by_cases h2 : j = p (T k)
    · rw [if_pos ⟨h, h1, h2⟩, if_pos h2, h1, h2]
    · rw [if_neg (fun e => h2 e.2.2), if_neg h2, h1]
  · rw [if_neg (fun e => h1 e.2.1), if_neg h1]
theorem smK_sum (s b : Nat) : ∀ k, smK F T q p k s b = if b = p s then 0 else sumN (fun j => if F j = s ∧ p (T j) = b then q j else 0) k
  | 0 => by unfold smK sumN; split <;> rfl
  | k + 1 => by
    have ih := smK_sum s b k
    show (if p (T k) ≠ p (F k) ∧ s = F k ∧ b = p (T k) then smK F T q p k s b + q k else smK F T q p k s b) = _
    rw [ih, sumN]
    by_cases hb : b = p s
    · rw [if_pos hb]
      by_cases hc : p (T k) ≠ p (F k) ∧ s = F k ∧ b = p (T k)
      · exact absurd (by rw [← hc.2.2, hb, hc.2.1]) hc.1
      · rw [if_neg hc, if_pos hb]
    · rw [if_neg hb, if_neg hb]
      by_cases hc : F k = s ∧ p (T k) = b
      · rw [if_pos hc, if_pos ⟨fun e => hb (by rw [← hc.2, e, hc.1]), hc.1.symm, hc.2.symm⟩]
      · rw [if_neg hc, if_neg (fun e => hc ⟨e.2.1.symm, e.2.2.symm⟩)]
        grind
theorem smK_into (s b : Nat) : smK F T q p nm s b = if b = p s then 0 else intoQ F T q nm p s b := smK_sum s b nm
/-- equal lists of sums -/
def eqN (n : Nat) (x y : Nat → Rat) : Bool := (List.range n).all fun b => decide (x b = y b)
theorem eqN_iff {n : Nat} {x y : Nat → Rat} : eqN n x y = true ↔ ∀ b, b < n → x b = y b := by
  unfold eqN
  rw [List.all_eq_true]
  exact ⟨fun h b hb => of_decide_eq_true (h b (List.mem_range.2 hb)), fun h b hb => decide_eq_true (h b (List.mem_range.1 hb))⟩
theorem eqN_alk {a b : Nat} (hp : p a = p b) : eqN n (smK F T q p nm a) (smK F T q p nm b) = alk F T q nm n p a b := by
  rw [Bool.eq_iff_iff, eqN_iff, alk_iff]
  constructor
  · intro h d hd hne
    have := h d hd
    rw [smK_into, smK_into, if_neg hne, if_neg (by rw [← hp]; exact hne)] at this
    exact this
  · intro h d hd
    rw [smK_into, smK_into, ← hp]
    by_cases e : d = p a
    · rw [if_pos e, if_pos e]
    · rw [if_neg e, if_neg e]
      exact h d hd e
/-- the first pair of a block that is not alike -/
def badP (F T : Nat → Nat) (q : Nat → Rat) (nm n : Nat) (p : Nat → Nat) (a b : Nat) : Bool := p a == p b && !alk F T q nm n p a b
def IsPr (B : Nat → Nat → Bool) (n : Nat) (ok : Bool) (x y : Nat) : Prop :=
  (ok = true ∧ x = 0 ∧ y = 0 ∧ ∀ a b, a < b → b < n → B a b = false) ∨ (ok = false ∧ x < y ∧ y < n ∧ B x y = true ∧ ∀ a b, a < b → b < n → (a < x ∨ a = x ∧ b < y) → B a b = false)
theorem alk_sym {a b : Nat} (hp : p a = p b) : alk F T q nm n p a b = alk F T q nm n p b a := by
  rw [Bool.eq_iff_iff, alk_iff, alk_iff]
  exact ⟨fun h d hd hne => (h d hd (by rw [hp]; exact hne)).symm, fun h d hd hne => (h d hd (by rw [← hp]; exact hne)).symm⟩
theorem alk_refl {a : Nat} : alk F T q nm n p a a = true := alk_iff.2 fun _ _ _ => rfl
theorem pr_sta {ok : Bool} {x y : Nat} (h : IsPr (badP F T q nm n p) n ok x y) : ok = true ↔ StaB F T q nm n p := by
  have nb : ∀ {a b}, badP F T q nm n p a b = false → p a = p b → alk F T q nm n p a b = true := fun h e => by
    unfold badP at h
    rw [e] at h
    simpa using h
  rcases h with ⟨h1, -, -, h4⟩ | ⟨h1, h2, h3, h4, -⟩
  · refine ⟨fun _ a b ha hb e => ?_, fun _ => h1⟩
    rcases Nat.lt_trichotomy a b with hl | hl | hl
    · exact nb (h4 a b hl hb) e
    · rw [hl]; exact alk_refl
    · rw [alk_sym e]; exact nb (h4 b a hl ha) e.symm
  · refine ⟨fun e => by (rw [h1] at e; cases e), fun hs => ?_⟩
    unfold badP at h4
    rw [Bool.and_eq_true] at h4
    have := hs x y (by omega) h3 (by simpa using h4.1)
    rw [this] at h4
    simp at h4
end
end Go.Proofs.YtlncafhgmbhocaaGreatDoor
