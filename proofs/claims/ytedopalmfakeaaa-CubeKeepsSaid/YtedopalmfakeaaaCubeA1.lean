/- Contracts of functions and lemmas, used by the proofs of the given statements. No condition beyond those that each lemma names. -/
import Derived.Test.YtedopalmfakeaaaCubeO2
namespace Go.Proofs.Ytedopalmfakeaaa
open Go.RowKit
set_option linter.unusedSimpArgs false
set_option linter.unusedVariables false
/-! ## storing into an own row of cubes; insertion by place (plain) -/
theorem cbs_set : ∀ (l : List Cb) (k : Nat) (x : Cb), ((cbs l).set (k * 2) (.int .i64 x.1)).set (k * 2 + 1) (.int .i64 x.2) = cbs (l.set k x)
  | [], k, x => by simp [cbs]
  | c :: l, 0, x => by simp [cbs, cbc]
  | c :: l, k + 1, x => by
    have := cbs_set l k x
    have e1 : cbs (c :: l) = .int .i64 c.1 :: .int .i64 c.2 :: cbs l := rfl
    have e2 : (c :: l).set (k + 1) x = c :: l.set k x := rfl
    have e3 : cbs (c :: l.set k x) = .int .i64 c.1 :: .int .i64 c.2 :: cbs (l.set k x) := rfl
    rw [e1, e2, e3, show (k + 1) * 2 = k * 2 + 1 + 1 by omega, List.set_cons_succ, List.set_cons_succ, List.set_cons_succ, List.set_cons_succ, this]
section
variable {w : World} {base g c : Nat} {l : List Cb}
theorem OwC.put (h : OwC w base (some ⟨g, 0, none⟩) c l) (k : Nat) (x : Cb) :
    OwC ((w.setCell ⟨g, k * 2, none⟩ (.int .i64 x.1)).setCell ⟨g, k * 2 + 1, none⟩ (.int .i64 x.2)) base (some ⟨g, 0, none⟩) c (l.set k x) ∧
    w.grownBy ((w.setCell ⟨g, k * 2, none⟩ (.int .i64 x.1)).setCell ⟨g, k * 2 + 1, none⟩ (.int .i64 x.2)) (some g) := by
  unfold OwC at h
  obtain ⟨s0, t0⟩ := World.ownsRow.stored h (k * 2) (.int .i64 x.1)
  obtain ⟨s1, t1⟩ := World.ownsRow.stored s0 (k * 2 + 1) (.int .i64 x.2)
  rw [cbs_set] at s1
  refine ⟨?_, ?_⟩
  · unfold OwC
    rw [List.length_set]
    exact s1
  · exact ⟨t1.os.trans t0.os, t1.tape.trans t0.tape, t1.output.trans t0.output, Nat.le_trans t0.size t1.size, fun i hi hne => (t1.block i (Nat.lt_of_lt_of_le hi t0.size) hne).trans (t0.block i hi hne)⟩
theorem OwC.frozen (h : OwC w base (some ⟨g, 0, none⟩) c l) (k : Nat) : w.frozen? ⟨g, k, none⟩ = false := World.ownsRow.frozenAt h k
theorem OwC.cells (h : OwC w base (some ⟨g, 0, none⟩) c l) {k : Nat} {x : Cb} (hk : l[k]? = some x) : w.cell? ⟨g, k * 2, none⟩ = some (.int .i64 x.1) ∧ w.cell? ⟨g, k * 2 + 1, none⟩ = some (.int .i64 x.2) := by
  obtain ⟨b, off, e, _, h1, h2⟩ := h.rd.at_ hk
  injection e with e
  injection e with e1 e2
  subst e1 e2
  rw [Nat.zero_add] at h1 h2
  exact ⟨h1, h2⟩
theorem OwC.blk {A : Option Addr} (h : OwC w base A c l) (hl : l ≠ []) : ∃ g, A = some ⟨g, 0, none⟩ ∧ base ≤ g ∧ g < w.heap.size := by
  rcases h.2 with ⟨e, h0⟩ | ⟨g, cap, cur, e, hb, hg, -⟩
  · injection e with e1 e2
    exact absurd (List.eq_nil_of_length_eq_zero (by omega)) hl
  · injection e with e1 e2 e3
    exact ⟨g, e1, hb, (Array.getElem?_eq_some_iff.1 hg).1⟩
end
/-! ### insertion by place -/
section
variable {α : Type} [DecidableEq α] {lt : α → α → Bool}
theorem insD_same (c : α) : ∀ (s : List α) (t : Nat) (ht : t < s.length), (∀ j (hj : j < t), lt (s[j]'(by omega)) c = true) → lt s[t] c = false → s[t] = c → insD lt c s = s
  | [], t, ht, _, _, _ => by simp at ht
  | x :: s, 0, ht, h1, h2, h3 => by
    simp only [List.getElem_cons_zero] at h2 h3
    unfold insD
    rw [if_neg (by simp [h2]), if_pos h3]
  | x :: s, t + 1, ht, h1, h2, h3 => by
    have h0 := h1 0 (by omega)
    simp only [List.getElem_cons_zero] at h0
    simp only [List.getElem_cons_succ] at h2 h3
    unfold insD
    rw [if_pos h0, insD_same c s t (by simpa using ht) (fun j hj => by have := h1 (j + 1) (by omega); simpa using this) h2 h3]
theorem insD_new (c : α) : ∀ (s : List α) (t : Nat) (ht : t ≤ s.length), (∀ j (hj : j < t), lt (s[j]'(by omega)) c = true) → (∀ h : t < s.length, lt s[t] c = false ∧ s[t] ≠ c) → insD lt c s = s.take t ++ c :: s.drop t
  | [], t, ht, _, _ => by
    have : t = 0 := by simpa using ht
    subst this
    rfl
  | x :: s, 0, ht, h1, h2 => by
    obtain ⟨h2, h3⟩ := h2 (by simp)
    simp only [List.getElem_cons_zero] at h2 h3
    unfold insD
    rw [if_neg (by simp [h2]), if_neg h3]
    rfl
  | x :: s, t + 1, ht, h1, h2 => by
    have h0 := h1 0 (by omega)
    simp only [List.getElem_cons_zero] at h0
    unfold insD
    rw [if_pos h0, insD_new c s t (by simpa using ht) (fun j hj => by have := h1 (j + 1) (by omega); simpa using this) (fun h => by have := h2 (by simpa using h); simpa using this)]
    rfl
end
/-- the row while elements move up: place k is free -/
def gap {α : Type} (s : List α) (k : Nat) (y : α) : List α := s.take k ++ y :: s.drop k
theorem gap_len {α : Type} (s : List α) {k : Nat} (y : α) (hk : k ≤ s.length) : (gap s k y).length = s.length + 1 := by
  simp [gap]; omega
theorem gap_end {α : Type} (s : List α) (y : α) : gap s s.length y = s ++ [y] := by simp [gap]
theorem gap_at {α : Type} (s : List α) {k : Nat} (y : α) (hk : k + 1 ≤ s.length) : (gap s (k + 1) y)[k]? = s[k]? := by
  unfold gap
  rw [List.getElem?_append_left (by simp; omega), List.getElem?_take, if_pos (by omega)]
theorem gap_here {α : Type} (s : List α) {k : Nat} (y : α) (hk : k ≤ s.length) : (gap s k y)[k]? = some y := by
  unfold gap
  rw [List.getElem?_append_right (by simp; omega)]
  simp [Nat.min_eq_left hk]
theorem gap_set {α : Type} (s : List α) {k : Nat} (y x : α) (hk : k ≤ s.length) : (gap s k y).set k x = gap s k x := by
  unfold gap
  rw [List.set_append_right _ _ (by simp; omega)]
  simp [Nat.min_eq_left hk]
theorem gap_move {α : Type} (s : List α) {k : Nat} (hk : k < s.length) : gap s (k + 1) s[k] = gap s k s[k] := by
  unfold gap
  have e1 : s.take (k + 1) = s.take k ++ [s[k]] := List.take_succ_eq_append_getElem hk
  have e2 : s.drop k = s[k] :: s.drop (k + 1) := List.drop_eq_getElem_cons hk
  rw [e1, e2, List.append_assoc]
  rfl
end Go.Proofs.Ytedopalmfakeaaa
