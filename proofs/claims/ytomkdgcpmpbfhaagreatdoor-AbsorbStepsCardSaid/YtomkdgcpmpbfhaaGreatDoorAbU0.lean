/- Contracts of functions and lemmas, used by the proofs of the given statements. No condition beyond those that each lemma names. -/
import Derived.Test.YtomkdgcpmpbfhaaGreatDoorAbT
import Derived.Test.YtomkdgcpmpbfhaaGreatDoorLinH
import Derived.Test.YtomkdgcpmpbfhaaGreatDoorJLinY
namespace Go.Proofs.YtomkdgcpmpbfhaaGreatDoor
open Go.RowKit
set_option linter.unusedSimpArgs false
set_option linter.unusedVariables false
set_option maxRecDepth 20000
/-! ## package absorb: solve, what it needs (plain) -/
theorem codeM_sq {m : Nat} (h0 : 0 < m) (h : m ≤ 256) : codeM m (fun _ => m) = 0 := by
  unfold codeM
  dsimp only
  rw [if_neg (by omega), if_neg (by omega), if_neg (by omega), if_neg (by omega), if_pos]
  exact List.all_eq_true.2 fun i _ => by simp
/-- the list over all states, when k live ones have been laid -/
def outK (l : Nat → Bool) (x : Nat → Rat) (k : Nat) : Nat → Rat := fun s => if l s = true ∧ cntB l s < k then x (cntB l s) else 0
theorem outK_0 (l : Nat → Bool) (x : Nat → Rat) : outK l x 0 = fun _ => 0 := by
  funext s
  unfold outK
  rw [if_neg (fun h => by omega)]
theorem outK_s {l : Nat → Bool} {x : Nat → Rat} {n k : Nat} (hk : k < cntB l n) {s : Nat} (hs : s < n) : upd (outK l x k) (ixB l n k) (x k) s = outK l x (k + 1) s := by
  obtain ⟨h1, h2⟩ := ixB_lt hk
  have h3 := cntB_ix hk
  unfold upd outK
  by_cases e : s = ixB l n k
  · rw [if_pos e, if_pos ⟨by rw [e]; exact h2, by rw [e, h3]; omega⟩, e, h3]
  · rw [if_neg e]
    by_cases e2 : l s = true ∧ cntB l s < k
    · rw [if_pos e2, if_pos ⟨e2.1, by omega⟩]
    · rw [if_neg e2, if_neg]
      rintro ⟨h4, h5⟩
      have h6 : cntB l s = k := by
        rcases Nat.lt_or_ge (cntB l s) k with h7 | h7
        · exact absurd ⟨h4, h7⟩ e2
        · omega
      have := (ixB_cnt hs h4).2
      rw [h6] at this
      exact e this.symm
theorem outK_e {l : Nat → Bool} {x : Nat → Rat} {n s : Nat} (hs : s < n) : outK l x (cntB l n) s = extB l x s := by
  unfold outK extB
  cases h : l s
  · rw [if_neg (fun h => by cases h.1), if_neg (by simp)]
  · rw [if_pos ⟨rfl, (ixB_cnt hs h).1⟩, if_pos rfl]
theorem kept_get {B : Nat → Bool} {n k : Nat} (hk : k < (kept B n).length) : (kept B n)[k] = ixB B n k := by
  unfold ixB
  rw [List.getD_eq_getElem?_getD, List.getElem?_eq_getElem hk]
  rfl
/-- the right side -/
def Chn.rhs (c : Chn) (back : Bool) : Nat → Rat := fun s => if back then (if s = c.sr.toNat then 1 else 0) else 1
def Chn.sol (c : Chn) (back : Bool) : Nat → Rat := solC back c.lv c.f c.t c.q c.nm c.nd (c.rhs back)
/-- the right side of the live states, when k have been laid -/
def Chn.rhsK (c : Chn) (back : Bool) (k : Nat) : Nat → Rat := fun t => if t < k then c.rhs back (ixB c.lv c.nd t) else 0
theorem Chn.rhsK_0 (c : Chn) (back : Bool) : c.rhsK back 0 = fun _ => 0 := by
  funext t
  unfold Chn.rhsK
  rw [if_neg (by omega)]
theorem Chn.rhsK_s (c : Chn) (back : Bool) (k : Nat) : upd (c.rhsK back k) k (c.rhs back (ixB c.lv c.nd k)) = c.rhsK back (k + 1) := by
  funext t
  unfold upd Chn.rhsK
  by_cases e : t = k
  · subst e; rw [if_pos rfl, if_pos (by omega)]
  · rw [if_neg e]
    by_cases e2 : t < k
    · rw [if_pos e2, if_pos (by omega)]
    · rw [if_neg e2, if_neg (by omega)]
theorem Chn.rhsK_z (c : Chn) (back : Bool) (k : Nat) (h : c.rhs back (ixB c.lv c.nd k) = 0) : c.rhsK back k = c.rhsK back (k + 1) := by
  rw [← Chn.rhsK_s, h]
  funext t
  unfold upd
  by_cases e : t = k
  · rw [if_pos e]
    unfold Chn.rhsK
    rw [if_neg (by omega)]
  · rw [if_neg e]
theorem Chn.rhs_sz (c : Chn) (back : Bool) (s : Nat) : Sz 400 (c.rhs back s) := by
  have h1 : Sz 400 (1 : Rat) := Sz.one (by omega)
  unfold Chn.rhs
  split
  · split
    · exact h1
    · exact Sz.zero (by omega)
  · exact h1
theorem gl_10 {m : Nat} (h : m ≤ 9) : gl 400 (m + 1) ≤ 1000000000 := by
  have h1 := gl_mono (L := 400) (show m + 1 ≤ 10 by omega)
  have h2 : gl 400 10 ≤ 1000000000 := by decide +kernel
  omega
/-- the solution of the live states is the chain's -/
theorem AbS.partY {l D : Nat → Bool} {F T : Nat → Nat} {q : Nat → Rat} {nm n : Nat} (back : Bool) (h : AbS nm n F T q D l) {b y : Nat → Rat} (hy : ∀ k, k < cntB l n → y k = b (ixB l n k)) : codeS (cntB l n) (cntB l n) (wide (parM l F T q back n nm) y (cntB l n)) = 0
    ∧ ∀ s, s < n → extB l (fun t => (gj (cntB l n) (wide (parM l F T q back n nm) y (cntB l n)) (cntB l n + 1)).1 t (cntB l n)) s = solB back l F T q nm n b s := by
  obtain ⟨h1, h2⟩ := solve_full (M := parM l F T q back n nm) (y := y) (h.part_rank back)
  have hF : ∀ k, k < nm → F k < n ∧ T k < n := fun k hk => ⟨(h.mv k hk).1, (h.mv k hk).2.1⟩
  refine ⟨h1, h.sol_eq back (fun s _ hs => by unfold extB; simp [hs]) fun i hi => ?_⟩
  obtain ⟨h3, h4⟩ := ixB_cnt (h.ln i hi) hi
  have h5 := h2 _ h3
  rw [hy _ h3] at h5
  have e : parM l F T q back n nm (cntB l i) = fun t => sysK l F T q back nm (ixB l n (cntB l i)) (ixB l n t) := rfl
  rw [e, dotS_kept (Nat.le_refl _), h4, dot_sys hF (Nat.le_refl _)] at h5
  exact h5
theorem Chn.part_sol {c : Chn} (h : c.codeA = 0) (back : Bool) : codeS (cntB c.lv c.nd) (cntB c.lv c.nd) (wide (parM c.lv c.f c.t c.q back c.nd c.nm) (c.rhsK back (cntB c.lv c.nd)) (cntB c.lv c.nd)) = 0
    ∧ ∀ s, s < c.nd → outK c.lv (fun t => (gj (cntB c.lv c.nd) (wide (parM c.lv c.f c.t c.q back c.nd c.nm) (c.rhsK back (cntB c.lv c.nd)) (cntB c.lv c.nd)) (cntB c.lv c.nd + 1)).1 t (cntB c.lv c.nd)) (cntB c.lv c.nd) s = c.sol back s := by
  have hA := Chn.abS h
  obtain ⟨h1, h2⟩ := hA.partY back (b := c.rhs back) (y := c.rhsK back (cntB c.lv c.nd)) (fun k hk => by unfold Chn.rhsK; rw [if_pos hk])
  refine ⟨h1, fun s hs => ?_⟩
  rw [outK_e hs]
  exact (h2 s hs).trans (hA.solC_eq (c.rhs back) hs).symm
theorem Chn.sol_none {c : Chn} (back : Bool) (h : cntB c.lv c.nd = 0) {s : Nat} (hs : s < c.nd) : c.sol back s = 0 := by
  unfold Chn.sol
  refine solC_off _ ?_
  cases hl : c.lv s
  · rfl
  · have := (ixB_cnt hs hl).1
    omega
end Go.Proofs.YtomkdgcpmpbfhaaGreatDoor
