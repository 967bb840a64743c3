/- Contracts of functions and lemmas, used by the proofs of the given statements. No condition beyond those that each lemma names. -/
import Derived.Test.YtomkdgcpmpbfhaaGreatDoorAbX
import Derived.Test.YtomkdgcpmpbfhaaGreatDoorJLinF
namespace Go.Proofs.YtomkdgcpmpbfhaaGreatDoor
set_option linter.unusedSimpArgs false
set_option linter.unusedVariables false
/-! ## how great the numbers are (plain) -/
section
variable {nm n P L : Nat} {q : Nat → Rat} {F T : Nat → Nat} {l : Nat → Bool} {back : Bool} {v : Nat → Rat}
theorem sysK_fz (h : Rts nm q P) (i j : Nat) : ∀ k, k ≤ nm → Fz P (2 * k * (4294967296 * P)) (sysK l F T q back k i j)
  | 0, _ => (Fz.zero P).le (by omega)
  | k + 1, hk => by
    have ih := sysK_fz h i j k (by omega)
    have hq := h.fz k (by omega)
    have h0 : ∀ (p : Prop) [Decidable p], Fz P (4294967296 * P) (if p then q k else 0) := fun p _ => by
      split
      · exact hq
      · exact (Fz.zero P).le (by omega)
    have e : 2 * (k + 1) * (4294967296 * P) = 2 * k * (4294967296 * P) + 4294967296 * P + 4294967296 * P := by
      rw [Nat.mul_add, Nat.add_mul]; omega
    rw [e, sysK_s]
    exact (ih.add (h0 _)).sub (h0 _)
theorem wp2b : 240 * 4294967296 < wp 2 := by decide +kernel
theorem sysK_sz (h : Rts nm q P) (i j : Nat) {k : Nat} (hk : k ≤ nm) : Sz 20 (sysK l F T q back k i j) := by
  refine (sysK_fz h i j k hk).sz h.ne (by omega) (lt_wp_more h.lt (by omega)) ?_
  have h1 : 2 * k * 4294967296 < wp 2 := Nat.lt_of_le_of_lt (Nat.mul_le_mul_right _ (by have := h.few; omega)) wp2b
  have := wp_mul_lt h1 h.lt
  rw [Nat.mul_assoc] at this
  exact lt_wp_more this (by omega)
/-- sums of multiples of rates -/
theorem FzL.endK (hv : FzL L v) (h : Rts nm q P) {B : Nat → Bool} {e0 : Nat → Rat} (he : ∀ s, e0 s = 0 ∨ e0 s = 1) : ∀ k, k ≤ nm → FzL (L + 24) (Go.Proofs.YtomkdgcpmpbfhaaGreatDoor.endK B T (fun k => q k * v (F k)) e0 k) := by
  obtain ⟨D, Z, h0, h1, h2, h3⟩ := hv
  have hP := h.lt
  have hD0 : P * D ≠ 0 := Nat.mul_ne_zero h.ne h0
  have hD1 : P * D < wp (16 + L) := wp_mul_lt hP h1
  have b1 : 4294967296 * P < wp 17 := by rw [← wp_lt_succ]; omega
  have b2 : 4294967296 * P * Z < wp (17 + L) := wp_mul_lt b1 h2
  intro k hk
  refine ⟨P * D, P * D + k * (4294967296 * P * Z), hD0, lt_wp_more hD1 (by omega), ?_, ?_⟩
  · have b4 : k * (4294967296 * P * Z) < wp (1 + (17 + L)) := wp_mul_lt (by rw [wp_one]; have := h.few; omega) b2
    exact lt_wp_more (lt_wp_add (L := L + 20) (lt_wp_more hD1 (by omega)) (lt_wp_more b4 (by omega))) (by omega)
  · intro s
    induction k with
    | zero =>
      unfold Go.Proofs.YtomkdgcpmpbfhaaGreatDoor.endK
      rcases he s with e | e
      · rw [e]; exact (Fz.zero _).le (by omega)
      · rw [e]; exact (Fz.nat (P * D) 1).le (by omega)
    | succ k ih =>
      have ih := ih (by omega)
      have hx : Fz (P * D) (4294967296 * P * Z) (q k * v (F k)) := (h.fz k (by omega)).mul (h3 _)
      unfold Go.Proofs.YtomkdgcpmpbfhaaGreatDoor.endK
      have e : P * D + (k + 1) * (4294967296 * P * Z) = P * D + k * (4294967296 * P * Z) + 4294967296 * P * Z := by rw [Nat.succ_mul]; omega
      have hle : P * D + k * (4294967296 * P * Z) ≤ P * D + (k + 1) * (4294967296 * P * Z) := by rw [e]; omega
      split
      · unfold upd
        split
        · rename_i e1
          rw [e]
          rw [← e1]
          exact ih.add hx
        · exact ih.le hle
      · exact ih.le hle
theorem FzL.prod (hv : FzL L v) (h : Rts nm q P) {k : Nat} (hk : k < nm) (s : Nat) : Sz (L + 24) (q k * v s) := by
  obtain ⟨D, Z, h0, h1, h2, h3⟩ := hv
  have b1 : 4294967296 * P < wp 17 := by rw [← wp_lt_succ]; have := h.lt; omega
  exact ((h.fz k hk).mul (h3 s)).sz (Nat.mul_ne_zero h.ne h0) (by omega) (lt_wp_more (wp_mul_lt h.lt h1) (by omega)) (lt_wp_more (wp_mul_lt b1 h2) (by omega))
end
section
variable {c : Chn}
theorem Small.sysS (h : Small c) : SysS c := ⟨h.chS, h.nd, fun ok back k hk i j => (sysK_sz (h.rts ok) i j hk).more (by omega)⟩
theorem Small.sol_sz (h : Small c) (h0 : c.codeA = 0) (back : Bool) {s : Nat} (hs : s < c.nd) : Sz 21400000 (c.sol back s) := by
  have ok := Chn.codeA_ok h0
  have hn := h.nd ok
  have hA := Chn.abS h0
  have e : c.sol back s = solB back c.lv c.f c.t c.q c.nm c.nd (c.rhs back) s := hA.solC_eq _ hs
  rw [e]
  unfold solB
  have hg := gj_sz (n := c.nd) (c := c.nd + 1) (L := 20) (M := wide (fullA c.lv (sysK c.lv c.f c.t c.q back c.nm)) (onL c.lv (c.rhs back)) c.nd) (by omega) (fun a b ha hb => by
    unfold wide
    split
    · unfold fullA
      split
      · exact sysK_sz (h.rts ok) a b (Nat.le_refl _)
      · split
        · exact Sz.one (by omega)
        · exact Sz.zero (by omega)
    · unfold onL
      split
      · unfold Chn.rhs
        split
        · split
          · exact Sz.one (by omega)
          · exact Sz.zero (by omega)
        · exact Sz.one (by omega)
      · exact Sz.zero (by omega)) (c.nd + 1) (Nat.le_refl _) s c.nd hs (by omega)
  have h1 := gl_mono (L := 20) (show c.nd + 1 ≤ 10 by omega)
  have h2 : gl 20 10 ≤ 21400000 := by decide +kernel
  exact hg.more (by omega)
theorem Chn.sol_far {c : Chn} (h0 : c.codeA = 0) (back : Bool) {s : Nat} (hs : c.nd ≤ s) : c.sol back s = 0 := by
  refine solC_off _ ?_
  cases hl : c.lv s
  · rfl
  · have := Chn.lv_ln (Chn.codeA_ok h0) s hl
    omega
/-- .. over one denominator -/
theorem Small.sol_fz (h : Small c) (h0 : c.codeA = 0) (back : Bool) : FzL 220000000 (c.sol back) := by
  have hn := h.nd (Chn.codeA_ok h0)
  obtain ⟨L, hL⟩ : ∃ L, L = 21400000 := ⟨_, rfl⟩
  have hsz : ∀ s, s < c.nd → Sz L (c.sol back s) := fun s hs => by rw [hL]; exact h.sol_sz h0 back hs
  have h1 := FzL.of_sz (v := c.sol back) (n := c.nd) (L := L) hsz (fun s hs => Chn.sol_far h0 back hs) (by omega)
  have h2 : c.nd * L ≤ 9 * L := Nat.mul_le_mul_right _ hn
  obtain ⟨M, hM⟩ : ∃ M, M = 220000000 := ⟨_, rfl⟩
  have h3 : c.nd * L + L + 1 ≤ M := by omega
  rw [← hM]
  exact h1.more h3
end
end Go.Proofs.YtomkdgcpmpbfhaaGreatDoor
namespace Go.Proofs.YtomkdgcpmpbfhaaGreatDoor
set_option linter.unusedSimpArgs false
set_option linter.unusedVariables false
/-! ## Accepts (plain) -/
section
variable (l : Nat → Bool) (F T : Nat → Nat) (q x : Nat → Rat)
/-- what the program has added up after k moves -/
def accL : Nat → Nat → Rat
  | 0 => fun _ => 0
  | k + 1 => if l (T k) then upd (upd (accL k) (F k) (accL k (F k) + q k * x (F k))) (F k) (accL k (F k) + q k * x (F k) - q k * x (T k)) else upd (accL k) (F k) (accL k (F k) + q k * x (F k))
/-- what the reference has added up for a state, on either side -/
def totL (s : Nat) : Nat → Rat
  | 0 => 0
  | k + 1 => if F k = s then totL s k + q k * x s else totL s k
def floL (s : Nat) : Nat → Rat
  | 0 => 1
  | k + 1 => if F k = s then if l (T k) then floL s k + q k * x (T k) else floL s k else floL s k
end
section
variable {l : Nat → Bool} {F T : Nat → Nat} {q x : Nat → Rat} {nm P L : Nat}
theorem accL_yes {k : Nat} (h : l (T k) = true) : accL l F T q x (k + 1) = upd (upd (accL l F T q x k) (F k) (accL l F T q x k (F k) + q k * x (F k))) (F k) (accL l F T q x k (F k) + q k * x (F k) - q k * x (T k)) := by
  conv => lhs; unfold accL
  rw [if_pos h]
theorem accL_no {k : Nat} (h : l (T k) = false) : accL l F T q x (k + 1) = upd (accL l F T q x k) (F k) (accL l F T q x k (F k) + q k * x (F k)) := by
  conv => lhs; unfold accL
  rw [if_neg (by rw [h]; simp)]
theorem accL_two {s : Nat} : ∀ k, accL l F T q x k s = totL F q x s k - (floL l F T q x s k - 1)
  | 0 => by show (0 : Rat) = 0 - (1 - 1); grind
  | k + 1 => by
    have ih := accL_two (s := s) k
    rw [totL, floL]
    by_cases e : F k = s
    · rw [if_pos e, if_pos e]
      cases h : l (T k)
      · rw [accL_no h, e]
        unfold upd
        rw [if_pos rfl, ih]
        simp
        grind
      · rw [accL_yes h, e]
        unfold upd
        rw [if_pos rfl, ih]
        simp
        grind
    · rw [if_neg e, if_neg e]
      have h1 : s ≠ F k := fun h => e h.symm
      cases h : l (T k)
      · rw [accL_no h]
        unfold upd
        rw [if_neg h1, ih]
      · rw [accL_yes h]
        unfold upd
        rw [if_neg h1, if_neg h1, ih]
theorem FzL.accs (hv : FzL L x) (h : Rts nm q P) : (∀ k, k ≤ nm → ∀ s, Sz (L + 24) (accL l F T q x k s)) ∧ (∀ k, k < nm → ∀ s, Sz (L + 24) (accL l F T q x k s + q k * x s)) ∧ (∀ k, k ≤ nm → ∀ s, Sz (L + 24) (totL F q x s k)) ∧ (∀ k, k ≤ nm → ∀ s, Sz (L + 24) (floL l F T q x s k)) := by
  obtain ⟨D, Z, h0, h1, h2, h3⟩ := hv
  have hP := h.lt
  have hfew := h.few
  have hD0 : P * D ≠ 0 := Nat.mul_ne_zero h.ne h0
  have hD1 : P * D < wp (16 + L) := wp_mul_lt hP h1
  have b1 : 4294967296 * P < wp 17 := by rw [← wp_lt_succ]; omega
  have b2 : 4294967296 * P * Z < wp (17 + L) := wp_mul_lt b1 h2
  have hX : ∀ k, k < nm → ∀ s, Fz (P * D) (4294967296 * P * Z) (q k * x s) := fun k hk s => (h.fz k hk).mul (h3 s)
  generalize 4294967296 * P * Z = X at *
  generalize P * D = E at *
  have fin : ∀ {a : Rat} {k : Nat}, k ≤ 241 → Fz E (E + k * X) a → Sz (L + 24) a := fun {a k} hk ha => by
    refine ha.sz hD0 (by omega) (lt_wp_more hD1 (by omega)) ?_
    have b4 : k * X < wp (1 + (17 + L)) := wp_mul_lt (by rw [wp_one]; omega) b2
    exact lt_wp_more (lt_wp_add (L := L + 20) (lt_wp_more hD1 (by omega)) (lt_wp_more b4 (by omega))) (by omega)
  have hA : ∀ k, k ≤ nm → ∀ s, Fz E (2 * k * X) (accL l F T q x k s) := fun k hk => by
    induction k with
    | zero => intro s; exact (Fz.zero _).le (by omega)
    | succ k ih =>
      have ih := ih (by omega)
      intro s
      have e : 2 * (k + 1) * X = 2 * k * X + X + X := by rw [Nat.mul_add, Nat.add_mul]; omega
      rw [e]
      cases hl : l (T k)
      · rw [accL_no hl]
        unfold upd
        split
        · exact ((ih _).add (hX k (by omega) _)).le (by omega)
        · exact (ih s).le (by omega)
      · rw [accL_yes hl]
        unfold upd
        split
        · exact ((ih _).add (hX k (by omega) _)).sub (hX k (by omega) _)
        · exact (ih s).le (by omega)
  have hT : ∀ k, k ≤ nm → ∀ s, Fz E (k * X) (totL F q x s k) := fun k hk s => by
    induction k with
    | zero => exact (Fz.zero _).le (by omega)
    | succ k ih =>
      have ih := ih (by omega)
      rw [totL, Nat.succ_mul]
      split
      · exact ih.add (hX k (by omega) _)
      · exact ih.le (by omega)
  have hF : ∀ k, k ≤ nm → ∀ s, Fz E (E + k * X) (floL l F T q x s k) := fun k hk s => by
    induction k with
    | zero =>
      rw [floL]
      exact (Fz.nat E 1).le (by omega)
    | succ k ih =>
      have ih := ih (by omega)
      rw [floL, Nat.succ_mul]
      split
      · split
        · exact (ih.add (hX k (by omega) _)).le (by omega)
        · exact ih.le (by omega)
      · exact ih.le (by omega)
  refine ⟨fun k hk s => fin (k := 2 * k) (by omega) ((hA k hk s).le (by omega)), fun k hk s => ?_, fun k hk s => fin (k := k) (by omega) ((hT k hk s).le (by omega)), fun k hk s => fin (k := k) (by omega) (hF k hk s)⟩
  refine fin (k := 2 * k + 1) (by omega) (((hA k (by omega) s).add (hX k hk s)).le ?_)
  rw [Nat.succ_mul (2 * k)]
  omega
end
/-- the number of Accepts' error -/
noncomputable def Chn.codeX (c : Chn) (n : Nat) (R : Nat → Rw) : Int := if c.codeA ≠ 0 then c.codeA else if n ≠ c.nd then 11 else if allV n R then 0 else 2
/-- the state s is as it should be -/
def Chn.okX (c : Chn) (x : Nat → Rat) (s : Nat) : Prop := (c.lv s = true → accL c.lv c.f c.t c.q x c.nm s = 1) ∧ (c.lv s = false → x s = 0)
open Classical in
/-- what Accepts answers -/
noncomputable def Chn.accB (c : Chn) (n : Nat) (R : Nat → Rw) : Bool := if c.codeX n R ≠ 0 then false else decide (∀ s, s < c.nd → c.okX (vecQ n R) s)
theorem Chn.codeX_a {c : Chn} {n : Nat} {R : Nat → Rw} (h : c.codeA ≠ 0) : c.codeX n R = c.codeA ∧ c.accB n R = false := by
  have e : c.codeX n R = c.codeA := by unfold Chn.codeX; rw [if_pos h]
  refine ⟨e, ?_⟩
  unfold Chn.accB
  rw [if_pos (by rw [e]; exact h)]
theorem Chn.codeX_n {c : Chn} {n : Nat} {R : Nat → Rw} (h : c.codeA = 0) (hn : n ≠ c.nd) : c.codeX n R = 11 ∧ c.accB n R = false := by
  have e : c.codeX n R = 11 := by unfold Chn.codeX; rw [if_neg (by omega), if_pos hn]
  refine ⟨e, ?_⟩
  unfold Chn.accB
  rw [if_pos (by rw [e]; omega)]
theorem Chn.codeX_v {c : Chn} {n : Nat} {R : Nat → Rw} (h : c.codeA = 0) (hn : n = c.nd) (hv : allV n R = false) : c.codeX n R = 2 ∧ c.accB n R = false := by
  have e : c.codeX n R = 2 := by unfold Chn.codeX; rw [if_neg (by omega), if_neg (by omega), if_neg (by rw [hv]; simp)]
  refine ⟨e, ?_⟩
  unfold Chn.accB
  rw [if_pos (by rw [e]; omega)]
theorem Chn.codeX_z {c : Chn} {n : Nat} {R : Nat → Rw} (h : c.codeA = 0) (hn : n = c.nd) (hv : allV n R = true) : c.codeX n R = 0 := by
  unfold Chn.codeX; rw [if_neg (by omega), if_neg (by omega), if_pos hv]
open Classical in
theorem Chn.acc_yes {c : Chn} {n : Nat} {R : Nat → Rw} (h : c.codeX n R = 0) (hs : ∀ s, s < c.nd → c.okX (vecQ n R) s) : c.accB n R = true := by
  unfold Chn.accB
  rw [if_neg (by omega)]
  exact decide_eq_true hs
open Classical in
theorem Chn.acc_no {c : Chn} {n : Nat} {R : Nat → Rw} {s : Nat} (hs : s < c.nd) (hn : ¬ c.okX (vecQ n R) s) : c.accB n R = false := by
  unfold Chn.accB
  split
  · rfl
  · exact decide_eq_false fun h => hn (h s hs)
end Go.Proofs.YtomkdgcpmpbfhaaGreatDoor
