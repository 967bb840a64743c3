/- Contracts of functions and lemmas, used by the proofs of the given statements. No condition beyond those that each lemma names. -/
import Derived.Test.YtomkdgcpmpbfhaaGreatDoorAbX
namespace Go.Proofs.YtomkdgcpmpbfhaaGreatDoor
set_option linter.unusedSimpArgs false
set_option linter.unusedVariables false
/-! ## how great the numbers are (plain) -/
section
variable {nm n P L : Nat} {q : Nat → Rat} {F T : Nat → Nat} {l : Nat → Bool} {back : Bool} {v : Nat → Rat}
theorem sysK_fz (h : Rts nm q P) (i j : Nat) : ∀ k, k ≤ nm → Fz P (2 * k * (4294967296 * P)) (sysK l F T q back k i j)
  | 0, _ => (Fz.zero P).le (by omega)
  | k + 1, hk => by
    have ih := sysK_fz h i j k (by omega)
    have hq := h.fz k (by omega)
    have h0 : ∀ (p : Prop) [Decidable p], Fz P (4294967296 * P) (if p then q k else 0) := fun p _ => by
      split
      · exact hq
      · exact (Fz.zero P).le (by omega)
    have e : 2 * (k + 1) * (4294967296 * P) = 2 * k * (4294967296 * P) + 4294967296 * P + 4294967296 * P := by
      rw [Nat.mul_add, Nat.add_mul]; omega
    rw [e, sysK_s]
    exact (ih.add (h0 _)).sub (h0 _)
theorem wp2b : 240 * 4294967296 < wp 2 := by decide +kernel
theorem sysK_sz (h : Rts nm q P) (i j : Nat) {k : Nat} (hk : k ≤ nm) : Sz 20 (sysK l F T q back k i j) := by
  refine (sysK_fz h i j k hk).sz h.ne (by omega) (lt_wp_more h.lt (by omega)) ?_
  have h1 : 2 * k * 4294967296 < wp 2 := Nat.lt_of_le_of_lt (Nat.mul_le_mul_right _ (by have := h.few; omega)) wp2b
  have := wp_mul_lt h1 h.lt
  rw [Nat.mul_assoc] at this
  exact lt_wp_more this (by omega)
/-- sums of multiples of rates -/
theorem FzL.endK (hv : FzL L v) (h : Rts nm q P) {B : Nat → Bool} {e0 : Nat → Rat} (he : ∀ s, e0 s = 0 ∨ e0 s = 1) : ∀ k, k ≤ nm → FzL (L + 24) (Go.Proofs.YtomkdgcpmpbfhaaGreatDoor.endK B T (fun k => q k * v (F k)) e0 k) := by
  obtain ⟨D, Z, h0, h1, h2, h3⟩ := hv
  have hP := h.lt
  have hD0 : P * D ≠ 0 := Nat.mul_ne_zero h.ne h0
  have hD1 : P * D < wp (16 + L) := wp_mul_lt hP h1
  have b1 : 4294967296 * P < wp 17 := by rw [← wp_lt_succ]; omega
  have b2 : 4294967296 * P * Z < wp (17 + L) := wp_mul_lt b1 h2
  intro k hk
  refine ⟨P * D, P * D + k * (4294967296 * P * Z), hD0, lt_wp_more hD1 (by omega), ?_, ?_⟩
  · have b4 : k * (4294967296 * P * Z) < wp (1 + (17 + L)) := wp_mul_lt (by rw [wp_one]; have := h.few; omega) b2
    exact lt_wp_more (lt_wp_add (L := L + 20) (lt_wp_more hD1 (by omega)) (lt_wp_more b4 (by omega))) (by omega)
  · intro s
    induction k with
    | zero =>
      unfold Go.Proofs.YtomkdgcpmpbfhaaGreatDoor.endK
      rcases he s with e | e
      · rw [e]; exact (Fz.zero _).le (by omega)
      · rw [e]; exact (Fz.nat (P * D) 1).le (by omega)
    | succ k ih =>
      have ih := ih (by omega)
      have hx : Fz (P * D) (4294967296 * P * Z) (q k * v (F k)) := (h.fz k (by omega)).mul (h3 _)
      unfold Go.Proofs.YtomkdgcpmpbfhaaGreatDoor.endK
      have e : P * D + (k + 1) * (4294967296 * P * Z) = P * D + k * (4294967296 * P * Z) + 4294967296 * P * Z := by rw [Nat.succ_mul]; omega
      have hle : P * D + k * (4294967296 * P * Z) ≤ P * D + (k + 1) * (4294967296 * P * Z) := by rw [e]; omega
      split
      · unfold upd
        split
        · rename_i e1
          rw [e]
          rw [← e1]
          exact ih.add hx
        · exact ih.le hle
      · exact ih.le hle
theorem FzL.prod (hv : FzL L v) (h : Rts nm q P) {k : Nat} (hk : k < nm) (s : Nat) : Sz (L + 24) (q k * v s) := by
  obtain ⟨D, Z, h0, h1, h2, h3⟩ := hv
  have b1 : 4294967296 * P < wp 17 := by rw [← wp_lt_succ]; have := h.lt; omega
  exact ((h.fz k hk).mul (h3 s)).sz (Nat.mul_ne_zero h.ne h0) (by omega) (lt_wp_more (wp_mul_lt h.lt h1) (by omega)) (lt_wp_more (wp_mul_lt b1 h2) (by omega))
end
section
variable {c : Chn}
theorem Small.sysS (h : Small c) : SysS c := ⟨h.chS, h.nd, fun ok back k hk i j => (sysK_sz (h.rts ok) i j hk).more (by omega)⟩
theorem Small.sol_sz (h : Small c) (h0 : c.codeA = 0) (back : Bool) {s : Nat} (hs : s < c.nd) : Sz 21400000 (c.sol back s) := by
  have ok := Chn.codeA_ok h0
  have hn := h.nd ok
  have hA := Chn.abS h0
  have e : c.sol back s = solB back c.lv c.f c.t c.q c.nm c.nd (c.rhs back) s := hA.solC_eq _ hs
  rw [e]
  unfold solB
  have hg := gj_sz (n := c.nd) (c := c.nd + 1) (L := 20) (M := wide (fullA c.lv (sysK c.lv c.f c.t c.q back c.nm)) (onL c.lv (c.rhs back)) c.nd) (by omega) (fun a b ha hb => by
    unfold wide
    split
    · unfold fullA
      split
      · exact sysK_sz (h.rts ok) a b (Nat.le_refl _)
      · split
        · exact Sz.one (by omega)
        · exact Sz.zero (by omega)
    · unfold onL
      split
      · unfold Chn.rhs
        split
        · split
          · exact Sz.one (by omega)
          · exact Sz.zero (by omega)
        · exact Sz.one (by omega)
      · exact Sz.zero (by omega)) (c.nd + 1) (Nat.le_refl _) s c.nd hs (by omega)
  have h1 := gl_mono (L := 20) (show c.nd + 1 ≤ 10 by omega)
  have h2 : gl 20 10 ≤ 21400000 := by decide +kernel
  exact hg.more (by omega)
theorem Chn.sol_far {c : Chn} (h0 : c.codeA = 0) (back : Bool) {s : Nat} (hs : c.nd ≤ s) : c.sol back s = 0 := by
  refine solC_off _ ?_
  cases hl : c.lv s
  · rfl
  · have := Chn.lv_ln (Chn.codeA_ok h0) s hl
    omega
/-- .. over one denominator -/
theorem Small.sol_fz (h : Small c) (h0 : c.codeA = 0) (back : Bool) : FzL 220000000 (c.sol back) := by
  have hn := h.nd (Chn.codeA_ok h0)
  obtain ⟨L, hL⟩ : ∃ L, L = 21400000 := ⟨_, rfl⟩
  have hsz : ∀ s, s < c.nd → Sz L (c.sol back s) := fun s hs => by rw [hL]; exact h.sol_sz h0 back hs
  have h1 := FzL.of_sz (v := c.sol back) (n := c.nd) (L := L) hsz (fun s hs => Chn.sol_far h0 back hs) (by omega)
  have h2 : c.nd * L ≤ 9 * L := Nat.mul_le_mul_right _ hn
  obtain ⟨M, hM⟩ : ∃ M, M = 220000000 := ⟨_, rfl⟩
  have h3 : c.nd * L + L + 1 ≤ M := by omega
  rw [← hM]
  exact h1.more h3
end
end Go.Proofs.YtomkdgcpmpbfhaaGreatDoor
