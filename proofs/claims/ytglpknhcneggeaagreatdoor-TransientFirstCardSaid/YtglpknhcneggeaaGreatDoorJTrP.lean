/- Contracts of functions and lemmas, used by the proofs of the given statements. No condition beyond those that each lemma names. -/
import Derived.Test.YtglpknhcneggeaaGreatDoorLinP
namespace Go.Proofs.YtglpknhcneggeaaGreatDoor
set_option linter.unusedSimpArgs false
set_option linter.unusedVariables false
/-! ## fractions over one denominator (plain): how great numbers become in steps of a chain -/
def Fz (D Z : Nat) (q : Rat) : Prop := ∃ z : Int, q * (D : Rat) = (z : Rat) ∧ z.natAbs ≤ Z
theorem Fz.add {D Z Y : Nat} {a b : Rat} (ha : Fz D Z a) (hb : Fz D Y b) : Fz D (Z + Y) (a + b) := by
  obtain ⟨z, h1, h2⟩ := ha
  obtain ⟨y, h3, h4⟩ := hb
  exact ⟨z + y, by rw [Rat.add_mul, h1, h3, Rat.intCast_add], by omega⟩
theorem Fz.neg {D Z : Nat} {a : Rat} (ha : Fz D Z a) : Fz D Z (-a) := by
  obtain ⟨z, h1, h2⟩ := ha
  exact ⟨-z, by rw [Rat.neg_mul, h1, Rat.intCast_neg], by omega⟩
theorem Fz.sub {D Z Y : Nat} {a b : Rat} (ha : Fz D Z a) (hb : Fz D Y b) : Fz D (Z + Y) (a - b) := by
  rw [Rat.sub_eq_add_neg]; exact ha.add hb.neg
theorem Fz.mul {D E Z Y : Nat} {a b : Rat} (ha : Fz D Z a) (hb : Fz E Y b) : Fz (D * E) (Z * Y) (a * b) := by
  obtain ⟨z, h1, h2⟩ := ha
  obtain ⟨y, h3, h4⟩ := hb
  refine ⟨z * y, ?_, by rw [Int.natAbs_mul]; exact Nat.mul_le_mul h2 h4⟩
  rw [Rat.natCast_mul, Rat.intCast_mul, ← h1, ← h3]
  grind
theorem Fz.up {D Z : Nat} {a : Rat} (ha : Fz D Z a) (k : Nat) : Fz (D * k) (Z * k) a := by
  have h : Fz k k 1 := ⟨(k : Int), by rw [Rat.one_mul]; rfl, by omega⟩
  have := ha.mul h
  rwa [Rat.mul_one] at this
theorem Fz.le {D Z Y : Nat} {a : Rat} (ha : Fz D Z a) (h : Z ≤ Y) : Fz D Y a := by
  obtain ⟨z, h1, h2⟩ := ha
  exact ⟨z, h1, by omega⟩
theorem Fz.zero (D : Nat) : Fz D 0 0 := ⟨0, by rw [Rat.zero_mul]; rfl, by omega⟩
theorem mul_den_self (q : Rat) : q * (q.den : Rat) = (q.num : Rat) := by
  have h := Rat.mkRat_self q
  rw [Rat.mkRat_eq_div] at h
  have hd := cast_ne q.den_nz
  grind
theorem num_pos_of {q : Rat} (h : 0 < q) : 0 < q.num := by
  have h1 : 0 ≤ q.num := Rat.num_nonneg.2 (Rat.le_of_lt h)
  have h2 : q.num ≠ 0 := fun e => by rw [Rat.num_eq_zero.1 e] at h; exact absurd h (by decide)
  omega
theorem Fz.own (q : Rat) : Fz q.den q.num.natAbs q := ⟨q.num, mul_den_self q, Nat.le_refl _⟩
theorem Fz.nat (D n : Nat) : Fz D (n * D) (n : Rat) := ⟨((n * D : Nat) : Int), by rw [← Rat.natCast_mul]; rfl, by omega⟩
theorem Fz.inv {q : Rat} (hq : 0 < q) : Fz q.num.natAbs q.den (1 / q) := by
  refine ⟨(q.den : Int), ?_, by omega⟩
  have h1 : q * (q.den : Rat) = (q.num : Rat) := mul_den_self q
  have h2 : 0 < q.num := num_pos_of hq
  have h3 : ((q.num.natAbs : Nat) : Rat) = (q.num : Rat) := by
    have : ((q.num.natAbs : Nat) : Int) = q.num := by omega
    rw [← Rat.intCast_natCast, this]
  rw [h3, ← h1]
  have hne : q ≠ 0 := by intro e; rw [e] at hq; exact absurd hq (by decide)
  have h4 : (((q.den : Nat) : Int) : Rat) = (q.den : Rat) := rfl
  rw [h4]
  grind
theorem Fz.sz {D Z L : Nat} {q : Rat} (h : Fz D Z q) (hD : D ≠ 0) (hL : 1 ≤ L) (h1 : D < wp L) (h2 : Z < wp L) : Sz L q := by
  obtain ⟨z, h3, h4⟩ := h
  have e : q = sq (decide (z < 0)) z.natAbs D := by
    have hc := cast_ne hD
    have e1 : q = (z : Rat) / (D : Rat) := by rw [← h3]; grind
    rw [e1, sq_eq_div]
    by_cases hz : z < 0
    · have e2 : (z : Rat) = -((z.natAbs : Nat) : Rat) := by
        have : z = -((z.natAbs : Nat) : Int) := by omega
        rw [← Rat.intCast_natCast, ← Rat.intCast_neg, ← this]
      simp only [hz, decide_true, if_true]
      rw [e2]; grind
    · have e2 : (z : Rat) = ((z.natAbs : Nat) : Rat) := by
        have : z = ((z.natAbs : Nat) : Int) := by omega
        rw [← Rat.intCast_natCast, ← this]
      simp only [hz, decide_false, Bool.false_eq_true, if_false]
      rw [e2]; grind
  rw [e]
  exact Sz_sq hL (by omega) h1 hD
/-- the product of denominators -/
def dps (q : Nat → Rat) : Nat → Nat
  | 0 => 1
  | k + 1 => dps q k * (q k).den
theorem dps_pos (q : Nat → Rat) : ∀ k, dps q k ≠ 0
  | 0 => by simp [dps]
  | k + 1 => Nat.mul_ne_zero (dps_pos q k) (q k).den_nz
theorem dps_fac (q : Nat → Rat) {k : Nat} : ∀ {n : Nat}, k < n → ∃ c, dps q n = (q k).den * c
  | n + 1, h => by
    by_cases e : k = n
    · subst e; exact ⟨dps q k, by rw [dps, Nat.mul_comm]⟩
    · obtain ⟨c, hc⟩ := dps_fac q (k := k) (n := n) (by omega)
      exact ⟨c * (q n).den, by rw [dps, hc, Nat.mul_assoc]⟩
theorem dps_le (q : Nat → Rat) {B : Nat} : ∀ {n : Nat}, (∀ k, k < n → (q k).den ≤ B) → dps q n ≤ B ^ n
  | 0, _ => by simp [dps]
  | n + 1, h => by
    rw [dps, Nat.pow_succ]
    exact Nat.mul_le_mul (dps_le q fun k hk => h k (by omega)) (h n (by omega))
theorem Fz.all {q : Nat → Rat} {n k Z : Nat} (hk : k < n) (hz : (q k).num.natAbs ≤ Z) : Fz (dps q n) (Z * dps q n) (q k) := by
  obtain ⟨c, hc⟩ := dps_fac q hk
  have := (Fz.own (q k)).up c
  rw [← hc] at this
  refine this.le ?_
  rw [hc, ← Nat.mul_assoc]
  refine Nat.mul_le_mul ?_ (Nat.le_refl _)
  exact Nat.le_trans hz (Nat.le_mul_of_pos_right _ (Nat.pos_of_ne_zero (q k).den_nz))
/-! ## a step of a chain -/
/-- the elements after the first k moves; the moves that are not active do nothing -/
def stp (act : Nat → Bool) (F T : Nat → Nat) (v sh : Nat → Rat) : Nat → Nat → Rat
  | 0 => v
  | k + 1 => fun s => if act k then (if s = F k then stp act F T v sh k s - sh k else if s = T k then stp act F T v sh k s + sh k else stp act F T v sh k s) else stp act F T v sh k s
theorem stp_no {act : Nat → Bool} {F T : Nat → Nat} {v sh : Nat → Rat} {k : Nat} (h : act k = false) : stp act F T v sh (k + 1) = stp act F T v sh k := by
  funext s; simp [stp, h]
theorem stp_yes {act : Nat → Bool} {F T : Nat → Nat} {v sh : Nat → Rat} {k : Nat} (h : act k = true) (hne : F k ≠ T k) :
    stp act F T v sh (k + 1) = upd (upd (stp act F T v sh k) (F k) (stp act F T v sh k (F k) - sh k)) (T k) (stp act F T v sh k (T k) + sh k) := by
  funext s
  simp only [stp, h, if_true, upd]
  by_cases h1 : s = T k
  · have h2 : ¬ s = F k := fun e => hne (e.symm.trans h1)
    rw [if_neg h2, if_pos h1, if_pos h1, h1]
  · by_cases h2 : s = F k
    · rw [if_pos h2, if_neg h1, if_pos h2, h2]
    · rw [if_neg h2, if_neg h1, if_neg h1, if_neg h2]
theorem stp_fz {act : Nat → Bool} {F T : Nat → Nat} {v sh : Nat → Rat} {D Z Y : Nat} (hv : ∀ s, Fz D Z (v s)) : ∀ {n : Nat}, (∀ k, k < n → Fz D Y (sh k)) → ∀ s, Fz D (Z + n * Y) (stp act F T v sh n s)
  | 0, _, s => (hv s).le (by omega)
  | n + 1, h, s => by
    have ih := stp_fz (act := act) (F := F) (T := T) hv (n := n) (fun k hk => h k (by omega)) s
    have hn := h n (by omega)
    have e : Z + n * Y + Y = Z + (n + 1) * Y := by rw [Nat.succ_mul]; omega
    have hle : Z + n * Y ≤ Z + (n + 1) * Y := by rw [← e]; omega
    unfold stp
    split
    · split
      · rw [← e]; exact ih.sub hn
      · split
        · rw [← e]; exact ih.add hn
        · exact ih.le hle
    · exact ih.le hle
/-- what a move takes -/
def shr (F : Nat → Nat) (q : Nat → Rat) (r : Rat) (v : Nat → Rat) (k : Nat) : Rat := v (F k) * q k / r
/-- a step -/
def stepV (act : Nat → Bool) (F T : Nat → Nat) (q : Nat → Rat) (r : Rat) (nm : Nat) (v : Nat → Rat) : Nat → Rat := stp act F T v (shr F q r v) nm
/-- the distributions after k steps -/
def runV (act : Nat → Bool) (F T : Nat → Nat) (q : Nat → Rat) (r : Rat) (nm : Nat) (v : Nat → Rat) : Nat → Nat → Rat
  | 0 => v
  | k + 1 => stepV act F T q r nm (runV act F T q r nm v k)
end Go.Proofs.YtglpknhcneggeaaGreatDoor
namespace Go.Proofs.YtglpknhcneggeaaGreatDoor
set_option linter.unusedSimpArgs false
set_option linter.unusedVariables false
/-! ## what steps keep (plain) -/
def sumN (f : Nat → Rat) : Nat → Rat
  | 0 => 0
  | n + 1 => sumN f n + f n
theorem sumN_congr {f g : Nat → Rat} : ∀ {n : Nat}, (∀ k, k < n → f k = g k) → sumN f n = sumN g n
  | 0, _ => rfl
  | n + 1, h => by rw [sumN, sumN, sumN_congr fun k hk => h k (by omega), h n (by omega)]
theorem sumN_upd {f : Nat → Rat} {k : Nat} {x : Rat} : ∀ {n : Nat}, k < n → sumN (upd f k x) n = sumN f n - f k + x
  | n + 1, h => by
    by_cases e : k = n
    · subst e
      rw [sumN, sumN, sumN_congr (g := f) fun j hj => by simp [upd, show j ≠ k by omega]]
      simp [upd]; grind
    · rw [sumN, sumN, sumN_upd (by omega : k < n)]
      have : upd f k x n = f n := by simp [upd, show n ≠ k by omega]
      rw [this]; grind
section
variable {act : Nat → Bool} {F T : Nat → Nat} {v u sh q : Nat → Rat} {r : Rat} {n nm : Nat}
theorem stp_sum : ∀ {k : Nat}, (∀ j, j < k → F j < n ∧ T j < n ∧ F j ≠ T j) → sumN (stp act F T v sh k) n = sumN v n
  | 0, _ => rfl
  | k + 1, h => by
    have ih := stp_sum (k := k) fun j hj => h j (by omega)
    obtain ⟨h1, h2, h3⟩ := h k (by omega)
    cases ha : act k
    · rw [stp_no ha]; exact ih
    · rw [stp_yes ha h3, sumN_upd h2, sumN_upd h1, ih]
      have : upd (stp act F T v sh k) (F k) (stp act F T v sh k (F k) - sh k) (T k) = stp act F T v sh k (T k) := by simp [upd, Ne.symm h3]
      rw [this]; grind
/-- the rates out of a state -/
def exK (F : Nat → Nat) (q : Nat → Rat) (s : Nat) : Nat → Rat
  | 0 => 0
  | k + 1 => if F k = s then exK F q s k + q k else exK F q s k
/-- what comes into a state -/
def inK (act : Nat → Bool) (T : Nat → Nat) (sh : Nat → Rat) (s : Nat) : Nat → Rat
  | 0 => 0
  | k + 1 => if act k = true ∧ T k = s then inK act T sh s k + sh k else inK act T sh s k
theorem exK_nonneg {s : Nat} : ∀ {k : Nat}, (∀ j, j < k → 0 ≤ q j) → 0 ≤ exK F q s k
  | 0, _ => Rat.le_refl
  | k + 1, h => by
    have ih := exK_nonneg (s := s) (k := k) fun j hj => h j (by omega)
    have := h k (by omega)
    unfold exK
    split
    · exact Rat.add_nonneg ih this
    · exact ih
theorem exK_mono {s : Nat} {k : Nat} : ∀ {n : Nat}, k ≤ n → (∀ j, j < n → 0 ≤ q j) → exK F q s k ≤ exK F q s n
  | 0, hk, _ => by rw [show k = 0 by omega]; exact Rat.le_refl
  | n + 1, hk, h => by
    by_cases e : k = n + 1
    · rw [e]; exact Rat.le_refl
    · have ih := exK_mono (s := s) (k := k) (n := n) (by omega) fun j hj => h j (by omega)
      have := h n (by omega)
      rw [exK]
      split
      · grind
      · exact ih
theorem inK_nonneg {s : Nat} : ∀ {k : Nat}, (∀ j, j < k → 0 ≤ sh j) → 0 ≤ inK act T sh s k
  | 0, _ => Rat.le_refl
  | k + 1, h => by
    have ih := inK_nonneg (s := s) (k := k) fun j hj => h j (by omega)
    have := h k (by omega)
    unfold inK
    split
    · exact Rat.add_nonneg ih this
    · exact ih
/-- a state none of whose moves is left out -/
theorem stp_form {s : Nat} : ∀ {k : Nat}, (∀ j, j < k → F j ≠ T j) → (∀ j, j < k → F j = s → act j = true) →
    stp act F T v (shr F q r v) k s = v s - v s * exK F q s k / r + inK act T (shr F q r v) s k
  | 0, _, _ => by simp [stp, exK, inK]; grind
  | k + 1, h, ha => by
    have ih := stp_form (s := s) (k := k) (fun j hj => h j (by omega)) fun j hj => ha j (by omega)
    have hne := h k (by omega)
    unfold exK inK
    cases hb : act k
    · rw [stp_no hb, ih]
      have : ¬ F k = s := fun e => by have := ha k (by omega) e; rw [hb] at this; cases this
      simp [this]
    · rw [stp_yes hb hne]
      by_cases h1 : s = T k
      · have h2 : ¬ F k = s := fun e => hne (e.trans h1)
        subst h1
        simp [upd, h2, ih]; grind
      · have h3 : ¬ T k = s := fun e => h1 e.symm
        by_cases h2 : s = F k
        · subst h2
          simp [upd, h1, h3, ih, shr]; grind
        · have h4 : ¬ F k = s := fun e => h2 e.symm
          simp [upd, h1, h2, h3, h4, ih]
/-- a state whose moves are all left out -/
theorem stp_down {s : Nat} : ∀ {k : Nat}, (∀ j, j < k → F j ≠ T j) → (∀ j, j < k → F j = s → act j = false) → (∀ j, j < k → 0 ≤ sh j) → v s ≤ stp act F T v sh k s
  | 0, _, _, _ => Rat.le_refl
  | k + 1, h, ha, hs => by
    have ih := stp_down (s := s) (k := k) (fun j hj => h j (by omega)) (fun j hj => ha j (by omega)) fun j hj => hs j (by omega)
    have hne := h k (by omega)
    have h0 := hs k (by omega)
    cases hb : act k
    · rw [stp_no hb]; exact ih
    · have h4 : ¬ s = F k := fun e => by have := ha k (by omega) e.symm; rw [hb] at this; cases this
      rw [stp_yes hb hne]
      by_cases h1 : s = T k
      · subst h1
        simp [upd]; grind
      · simp [upd, h1, h4]; exact ih
theorem div_nonneg {a b : Rat} (ha : 0 ≤ a) (hb : 0 < b) : 0 ≤ a / b := by
  rw [Rat.div_def]; exact Rat.mul_nonneg ha (Rat.le_of_lt (Rat.inv_pos.2 hb))
theorem shr_nonneg {k : Nat} (hv : 0 ≤ v (F k)) (hq : 0 ≤ q k) (hr : 0 < r) : 0 ≤ shr F q r v k := div_nonneg (Rat.mul_nonneg hv hq) hr
/-- what stays is not below 0 -/
theorem stay_nonneg {x e : Rat} (hx : 0 ≤ x) (he : e ≤ r) (hr : 0 < r) : 0 ≤ x - x * e / r := by
  have h1 : x - x * e / r = x * ((r - e) / r) := by grind
  rw [h1]
  exact Rat.mul_nonneg hx (div_nonneg (by grind) hr)
theorem stay_mono {x y e : Rat} (hx : x ≤ y) (he : e ≤ r) (hr : 0 < r) : x - x * e / r ≤ y - y * e / r := by
  have h1 := stay_nonneg (x := y - x) (by grind) he hr
  have h2 : (y - x) - (y - x) * e / r = (y - y * e / r) - (x - x * e / r) := by grind
  rw [h2] at h1
  grind
/-- nothing falls below 0 -/
theorem step_nonneg (hF : ∀ j, j < nm → F j ≠ T j) (hq : ∀ j, j < nm → 0 ≤ q j) (hr : 0 < r) (he : ∀ s, exK F q s nm ≤ r) (hv : ∀ s, 0 ≤ v s) (D : Nat → Bool) (hD : ∀ j, j < nm → act j = !D (F j)) (s : Nat) : 0 ≤ stepV act F T q r nm v s := by
  have hsh : ∀ j, j < nm → 0 ≤ shr F q r v j := fun j hj => shr_nonneg (hv _) (hq j hj) hr
  unfold stepV
  cases hd : D s
  · rw [stp_form hF fun j hj e => by rw [hD j hj, e, hd]; rfl]
    exact Rat.add_nonneg (stay_nonneg (hv s) (he s) hr) (inK_nonneg hsh)
  · exact Rat.le_trans (hv s) (stp_down hF (fun j hj e => by rw [hD j hj, e, hd]; rfl) hsh)
theorem inK_mono {act' : Nat → Bool} {sh' : Nat → Rat} {s : Nat} : ∀ {k : Nat}, (∀ j, j < k → act j = true → act' j = true ∧ sh j ≤ sh' j) → (∀ j, j < k → 0 ≤ sh' j) → inK act T sh s k ≤ inK act' T sh' s k
  | 0, _, _ => Rat.le_refl
  | k + 1, h, h0 => by
    have ih := inK_mono (s := s) (k := k) (fun j hj => h j (by omega)) fun j hj => h0 j (by omega)
    have hk := h k (by omega)
    have h00 := h0 k (by omega)
    unfold inK
    by_cases h1 : act k = true ∧ T k = s
    · rw [if_pos h1, if_pos ⟨(hk h1.1).1, h1.2⟩]
      have := (hk h1.1).2
      grind
    · rw [if_neg h1]
      split
      · grind
      · exact ih
/-- the run that ends in down states, and the other one -/
theorem step_less (hF : ∀ j, j < nm → F j ≠ T j) (hq : ∀ j, j < nm → 0 ≤ q j) (hr : 0 < r) (he : ∀ s, exK F q s nm ≤ r) (D : Nat → Bool) (hv : ∀ s, 0 ≤ v s) (huv : ∀ s, D s = false → u s ≤ v s) {s : Nat} (hs : D s = false) :
    stepV (fun j => !D (F j)) F T q r nm u s ≤ stepV (fun _ => true) F T q r nm v s := by
  unfold stepV
  rw [stp_form hF fun j hj e => by simp [e, hs], stp_form hF fun j hj e => rfl]
  have h1 := stay_mono (huv s hs) (he s) hr
  have h2 : inK (fun j => !D (F j)) T (shr F q r u) s nm ≤ inK (fun _ => true) T (shr F q r v) s nm := by
    refine inK_mono (fun j hj ha => ⟨rfl, ?_⟩) fun j hj => shr_nonneg (hv _) (hq j hj) hr
    have hd : D (F j) = false := by simpa using ha
    have h3 := huv _ hd
    have h4 : 0 ≤ (v (F j) - u (F j)) * q j / r := div_nonneg (Rat.mul_nonneg (by grind) (hq j hj)) hr
    have h5 : (v (F j) - u (F j)) * q j / r = shr F q r v j - shr F q r u j := by unfold shr; grind
    rw [h5] at h4
    grind
  grind
/-- the sum over the down states -/
def dsum (D : Nat → Bool) (f : Nat → Rat) : Nat → Rat
  | 0 => 0
  | n + 1 => if D n then dsum D f n + f n else dsum D f n
theorem dsum_mono {D : Nat → Bool} : ∀ {n : Nat}, (∀ s, s < n → D s = true → u s ≤ v s) → dsum D u n ≤ dsum D v n
  | 0, _ => Rat.le_refl
  | n + 1, h => by
    have ih := dsum_mono (D := D) (n := n) fun s hs => h s (by omega)
    have := h n (by omega)
    unfold dsum
    cases hd : D n
    · simpa using ih
    · have := this hd
      simp; grind
theorem dsum_split (D : Nat → Bool) : ∀ {n : Nat}, sumN v n = dsum D v n + dsum (fun s => !D s) v n
  | 0 => by simp [sumN, dsum]; grind
  | n + 1 => by
    rw [sumN, dsum, dsum, dsum_split D]
    cases D n <;> simp <;> grind
theorem dsum_nonneg {D : Nat → Bool} : ∀ {n : Nat}, (∀ s, s < n → 0 ≤ v s) → 0 ≤ dsum D v n
  | 0, _ => Rat.le_refl
  | n + 1, h => by
    have ih := dsum_nonneg (D := D) (n := n) fun s hs => h s (by omega)
    have := h n (by omega)
    unfold dsum
    split
    · exact Rat.add_nonneg ih this
    · exact ih
theorem dsum_congr {D : Nat → Bool} : ∀ {n : Nat}, (∀ s, s < n → u s = v s) → dsum D u n = dsum D v n
  | 0, _ => rfl
  | n + 1, h => by rw [dsum, dsum, dsum_congr fun s hs => h s (by omega), h n (by omega)]
/-! sums of distributions -/
theorem stp_add {v' sh' : Nat → Rat} : ∀ k s, stp act F T (fun s => v s + v' s) (fun j => sh j + sh' j) k s = stp act F T v sh k s + stp act F T v' sh' k s
  | 0, s => rfl
  | k + 1, s => by
    have ih := fun s => stp_add (v' := v') (sh' := sh') k s
    unfold stp
    split
    · split
      · rw [ih s]; grind
      · split
        · rw [ih s]; grind
        · rw [ih s]
    · rw [ih s]
theorem step_add {v' : Nat → Rat} (s : Nat) : stepV act F T q r nm (fun s => v s + v' s) s = stepV act F T q r nm v s + stepV act F T q r nm v' s := by
  unfold stepV
  rw [← stp_add]
  congr 1
  funext j
  unfold shr
  grind
theorem runV_sum (hF : ∀ j, j < nm → F j < n ∧ T j < n ∧ F j ≠ T j) : ∀ k, sumN (runV act F T q r nm v k) n = sumN v n
  | 0 => rfl
  | k + 1 => by rw [runV]; unfold stepV; rw [stp_sum hF]; exact runV_sum hF k
end
/-- what TransientFirst says -/
structure FirstT (nm n : Nat) (F T : Nat → Nat) (q : Nat → Rat) (r : Rat) (D : Nat → Bool) (v : Nat → Rat) : Prop where
  hF : ∀ j, j < nm → F j < n ∧ T j < n ∧ F j ≠ T j
  hq : ∀ j, j < nm → 0 ≤ q j
  hr : 0 < r
  he : ∀ s, exK F q s nm ≤ r
  hv : ∀ s, 0 ≤ v s
section
variable {nm n : Nat} {F T : Nat → Nat} {q : Nat → Rat} {r : Rat} {D : Nat → Bool} {v : Nat → Rat}
theorem FirstT.pos (h : FirstT nm n F T q r D v) : ∀ k s, 0 ≤ runV (fun _ => true) F T q r nm v k s
  | 0, s => h.hv s
  | k + 1, s => step_nonneg (fun j hj => (h.hF j hj).2.2) h.hq h.hr h.he (h.pos k) (fun _ => false) (fun _ _ => rfl) s
theorem FirstT.posD (h : FirstT nm n F T q r D v) : ∀ k s, 0 ≤ runV (fun j => !D (F j)) F T q r nm v k s
  | 0, s => h.hv s
  | k + 1, s => step_nonneg (fun j hj => (h.hF j hj).2.2) h.hq h.hr h.he (h.posD k) D (fun _ _ => rfl) s
theorem FirstT.less (h : FirstT nm n F T q r D v) : ∀ k s, D s = false → runV (fun j => !D (F j)) F T q r nm v k s ≤ runV (fun _ => true) F T q r nm v k s
  | 0, s, _ => Rat.le_refl
  | k + 1, s, hs => step_less (fun j hj => (h.hF j hj).2.2) h.hq h.hr h.he D (h.pos k) (h.less k) hs
theorem FirstT.above (h : FirstT nm n F T q r D v) (k : Nat) : dsum D (runV (fun _ => true) F T q r nm v k) n ≤ dsum D (runV (fun j => !D (F j)) F T q r nm v k) n := by
  have h1 := dsum_split (v := runV (fun _ => true) F T q r nm v k) D (n := n)
  have h2 := dsum_split (v := runV (fun j => !D (F j)) F T q r nm v k) D (n := n)
  rw [runV_sum h.hF] at h1 h2
  have h3 := dsum_mono (D := fun s => !D s) (n := n) fun s _ hs => h.less k s (by simpa using hs)
  grind
theorem FirstT.grow (h : FirstT nm n F T q r D v) (k : Nat) : dsum D (runV (fun j => !D (F j)) F T q r nm v k) n ≤ dsum D (runV (fun j => !D (F j)) F T q r nm v (k + 1)) n := by
  refine dsum_mono fun s _ hs => ?_
  rw [runV]
  exact stp_down (fun j hj => (h.hF j hj).2.2) (fun j hj e => by simp [e, hs]) fun j hj => shr_nonneg (h.posD k _) (h.hq j hj) h.hr
theorem FirstT.most (h : FirstT nm n F T q r D v) (k : Nat) (h1 : sumN v n = 1) : dsum D (runV (fun j => !D (F j)) F T q r nm v k) n ≤ 1 := by
  have h2 := dsum_split (v := runV (fun j => !D (F j)) F T q r nm v k) D (n := n)
  rw [runV_sum h.hF, h1] at h2
  have h3 := dsum_nonneg (D := fun s => !D s) (n := n) fun s _ => h.posD k s
  grind
end
end Go.Proofs.YtglpknhcneggeaaGreatDoor
namespace Go.Proofs.YtglpknhcneggeaaGreatDoor
set_option linter.unusedSimpArgs false
set_option linter.unusedVariables false
/-! ## chains: the number of the first error (plain) -/
def chkM (st : Int) (F T : Nat → Int) (q : Nat → Rat) (i : Nat) : Int :=
  if F i < 0 ∨ st ≤ F i ∨ T i < 0 ∨ st ≤ T i then 10 else if F i = T i then 2 else if q i ≤ 0 then 3 else if 0 < i ∧ ¬ (F (i - 1) < F i ∨ F (i - 1) = F i ∧ T (i - 1) < T i) then 13 else 0
def mvE (st : Int) (F T : Nat → Int) (q : Nat → Rat) : Nat → Int
  | 0 => 0
  | k + 1 => if mvE st F T q k = 0 then chkM st F T q k else mvE st F T q k
/-- the number of a chain's error -/
def codeC (st sr : Int) (nm : Nat) (F T : Nat → Int) (q : Nat → Rat) (nd : Nat) : Int :=
  if st < 1 ∨ 256 < st then 3 else if (nd : Int) ≠ st then 11 else if sr < 0 ∨ st ≤ sr then 10 else mvE st F T q nm
section
variable {st sr : Int} {F T : Nat → Int} {q : Nat → Rat} {nm nd k : Nat}
theorem mvE_stay {e : Int} (he : e ≠ 0) : ∀ {n : Nat}, k ≤ n → mvE st F T q k = e → mvE st F T q n = e
  | 0, h, h1 => by rw [show k = 0 by omega] at h1; exact h1
  | n + 1, h, h1 => by
    by_cases e1 : k = n + 1
    · rw [← e1]; exact h1
    · have := mvE_stay he (n := n) (by omega) h1
      rw [mvE, if_neg (by rw [this]; exact he)]; exact this
/-- the first move that is refused -/
theorem mvE_err {e : Int} (h : mvE st F T q k = 0) (hc : chkM st F T q k = e) (he : e ≠ 0) (hk : k < nm) : mvE st F T q nm = e :=
  mvE_stay he (k := k + 1) (by omega) (by rw [mvE, if_pos h]; exact hc)
theorem mvE_next (h : mvE st F T q k = 0) (hc : chkM st F T q k = 0) : mvE st F T q (k + 1) = 0 := by rw [mvE, if_pos h]; exact hc
theorem mvE_zero : ∀ {n : Nat}, mvE st F T q n = 0 → ∀ j, j < n → chkM st F T q j = 0
  | n + 1, h, j, hj => by
    rw [mvE] at h
    by_cases h1 : mvE st F T q n = 0
    · rw [if_pos h1] at h
      by_cases e : j = n
      · rw [e]; exact h
      · exact mvE_zero h1 j (by omega)
    · rw [if_neg h1] at h; exact absurd h h1
theorem chkM_10 (h : F k < 0 ∨ st ≤ F k ∨ T k < 0 ∨ st ≤ T k) : chkM st F T q k = 10 := by unfold chkM; rw [if_pos h]
theorem chkM_2 (h : ¬ (F k < 0 ∨ st ≤ F k ∨ T k < 0 ∨ st ≤ T k)) (h1 : F k = T k) : chkM st F T q k = 2 := by unfold chkM; rw [if_neg h, if_pos h1]
theorem chkM_3 (h : ¬ (F k < 0 ∨ st ≤ F k ∨ T k < 0 ∨ st ≤ T k)) (h1 : ¬ F k = T k) (h2 : q k ≤ 0) : chkM st F T q k = 3 := by unfold chkM; rw [if_neg h, if_neg h1, if_pos h2]
theorem chkM_13 (h : ¬ (F k < 0 ∨ st ≤ F k ∨ T k < 0 ∨ st ≤ T k)) (h1 : ¬ F k = T k) (h2 : ¬ q k ≤ 0) (h3 : 0 < k ∧ ¬ (F (k - 1) < F k ∨ F (k - 1) = F k ∧ T (k - 1) < T k)) : chkM st F T q k = 13 := by unfold chkM; rw [if_neg h, if_neg h1, if_neg h2, if_pos h3]
theorem chkM_0 (h : ¬ (F k < 0 ∨ st ≤ F k ∨ T k < 0 ∨ st ≤ T k)) (h1 : ¬ F k = T k) (h2 : ¬ q k ≤ 0) (h3 : ¬ (0 < k ∧ ¬ (F (k - 1) < F k ∨ F (k - 1) = F k ∧ T (k - 1) < T k))) : chkM st F T q k = 0 := by unfold chkM; rw [if_neg h, if_neg h1, if_neg h2, if_neg h3]
theorem chkM_ok (h : chkM st F T q k = 0) : 0 ≤ F k ∧ F k < st ∧ 0 ≤ T k ∧ T k < st ∧ F k ≠ T k ∧ 0 < q k ∧ (0 < k → F (k - 1) < F k ∨ F (k - 1) = F k ∧ T (k - 1) < T k) := by
  unfold chkM at h
  split at h
  · omega
  · split at h
    · omega
    · split at h
      · omega
      · split at h
        · omega
        · rename_i h1 h2 h3 h4
          refine ⟨by omega, by omega, by omega, by omega, h2, Rat.not_le.1 h3, fun hk => ?_⟩
          omega
theorem codeC_3 (h : st < 1 ∨ 256 < st) : codeC st sr nm F T q nd = 3 := by unfold codeC; rw [if_pos h]
theorem codeC_11 (h : ¬ (st < 1 ∨ 256 < st)) (h1 : (nd : Int) ≠ st) : codeC st sr nm F T q nd = 11 := by unfold codeC; rw [if_neg h, if_pos h1]
theorem codeC_10 (h : ¬ (st < 1 ∨ 256 < st)) (h1 : (nd : Int) = st) (h2 : sr < 0 ∨ st ≤ sr) : codeC st sr nm F T q nd = 10 := by unfold codeC; rw [if_neg h, if_neg (by omega), if_pos h2]
theorem codeC_mv (h : ¬ (st < 1 ∨ 256 < st)) (h1 : (nd : Int) = st) (h2 : ¬ (sr < 0 ∨ st ≤ sr)) : codeC st sr nm F T q nd = mvE st F T q nm := by unfold codeC; rw [if_neg h, if_neg (by omega), if_neg h2]
/-- a chain that is accepted -/
structure OkC (st sr : Int) (nm : Nat) (F T : Nat → Int) (q : Nat → Rat) (nd : Nat) : Prop where
  lo : 1 ≤ nd
  hi : nd ≤ 256
  st : st = nd
  s0 : 0 ≤ sr
  s1 : sr < nd
  mv : ∀ k, k < nm → 0 ≤ F k ∧ F k < nd ∧ 0 ≤ T k ∧ T k < nd ∧ F k ≠ T k ∧ 0 < q k ∧ (0 < k → F (k - 1) < F k ∨ F (k - 1) = F k ∧ T (k - 1) < T k)
theorem codeC_ok : codeC st sr nm F T q nd = 0 ↔ OkC st sr nm F T q nd := by
  constructor
  · intro h
    unfold codeC at h
    split at h
    · omega
    · split at h
      · omega
      · split at h
        · omega
        · rename_i h1 h2 h3
          refine ⟨by omega, by omega, by omega, by omega, by omega, fun k hk => ?_⟩
          have := chkM_ok (mvE_zero h k hk)
          refine ⟨this.1, ?_, this.2.2.1, ?_, this.2.2.2.2⟩ <;> omega
  · intro h
    have e := h.st
    rw [codeC_mv (by have := h.lo; have := h.hi; omega) (by omega) (by have := h.s0; have := h.s1; omega)]
    have : ∀ n, n ≤ nm → mvE st F T q n = 0 := by
      intro n
      induction n with
      | zero => intro _; rfl
      | succ n ih =>
        intro hn
        have h1 := h.mv n (by omega)
        refine mvE_next (ih (by omega)) (chkM_0 (by omega) h1.2.2.2.2.1 (Rat.not_le.2 h1.2.2.2.2.2.1) ?_)
        intro h2
        exact h2.2 (h1.2.2.2.2.2.2 h2.1)
    exact this nm (Nat.le_refl _)
end
end Go.Proofs.YtglpknhcneggeaaGreatDoor
namespace Go.Proofs.YtglpknhcneggeaaGreatDoor
set_option linter.unusedSimpArgs false
set_option linter.unusedVariables false
/-! ## how great numbers become in steps (plain) -/
theorem wp_lt_succ (L : Nat) : 4294967296 * wp L = wp (L + 1) := (wp_succ L).symm
theorem lt_wp_add {a b L : Nat} (ha : a < wp L) (hb : b < wp L) : a + b < wp (L + 1) := by
  rw [← wp_lt_succ]; omega
theorem lt_wp_more {a L M : Nat} (ha : a < wp L) (h : L ≤ M) : a < wp M := Nat.lt_of_lt_of_le ha (wp_le h)
/-- all elements over one denominator, of at most L words -/
def FzL (L : Nat) (v : Nat → Rat) : Prop := ∃ D Z, D ≠ 0 ∧ D < wp L ∧ Z < wp L ∧ ∀ s, Fz D Z (v s)
theorem FzL.sz {L : Nat} {v : Nat → Rat} (h : FzL L v) (hL : 1 ≤ L) (s : Nat) : Sz L (v s) := by
  obtain ⟨D, Z, h0, h1, h2, h3⟩ := h
  exact (h3 s).sz h0 hL h1 h2
theorem FzL.more {L M : Nat} {v : Nat → Rat} (h : FzL L v) (hM : L ≤ M) : FzL M v := by
  obtain ⟨D, Z, h0, h1, h2, h3⟩ := h
  exact ⟨D, Z, h0, lt_wp_more h1 hM, lt_wp_more h2 hM, h3⟩
theorem sumN_fz {D Z : Nat} {v : Nat → Rat} (h : ∀ s, Fz D Z (v s)) : ∀ n, Fz D (n * Z) (sumN v n)
  | 0 => (Fz.zero D).le (by omega)
  | n + 1 => by rw [sumN, Nat.succ_mul]; exact (sumN_fz h n).add (h n)
theorem dsum_fz {D Z : Nat} {v : Nat → Rat} {B : Nat → Bool} (h : ∀ s, Fz D Z (v s)) : ∀ n, Fz D (n * Z) (dsum B v n)
  | 0 => (Fz.zero D).le (by omega)
  | n + 1 => by
    rw [dsum, Nat.succ_mul]
    split
    · exact (dsum_fz h n).add (h n)
    · exact (dsum_fz h n).le (by omega)
theorem FzL.sum {L : Nat} {v : Nat → Rat} (h : FzL L v) {n : Nat} (hn : n < 4294967296) : Sz (L + 1) (sumN v n) := by
  obtain ⟨D, Z, h0, h1, h2, h3⟩ := h
  refine (sumN_fz h3 n).sz h0 (by omega) (lt_wp_more h1 (by omega)) ?_
  have := wp_mul_lt (L := 1) (by rw [wp_one]; exact hn) h2
  rwa [Nat.add_comm 1 L] at this
theorem FzL.dsum {L : Nat} {v : Nat → Rat} {B : Nat → Bool} (h : FzL L v) {n : Nat} (hn : n < 4294967296) : Sz (L + 1) (dsum B v n) := by
  obtain ⟨D, Z, h0, h1, h2, h3⟩ := h
  refine (dsum_fz h3 n).sz h0 (by omega) (lt_wp_more h1 (by omega)) ?_
  have := wp_mul_lt (L := 1) (by rw [wp_one]; exact hn) h2
  rwa [Nat.add_comm 1 L] at this
/-- the rates, over one denominator -/
structure Rts (nm : Nat) (q : Nat → Rat) (P : Nat) : Prop where
  ne : P ≠ 0
  lt : P < wp 16
  few : nm ≤ 120
  fz : ∀ k, k < nm → Fz P (4294967296 * P) (q k)
theorem wp16 : 16 ^ 120 < wp 16 := by decide +kernel
theorem wp6 : 4294967296 ^ 6 < wp 16 := by decide +kernel
theorem Rts.of {nm : Nat} {q : Nat → Rat} (hn : nm ≤ 120) (hs : ∀ k, k < nm → Sz 1 (q k)) (hd : 6 < nm → ∀ k, k < nm → (q k).den ≤ 16) : Rts nm q (dps q nm) := by
  refine ⟨dps_pos q nm, ?_, hn, fun k hk => ?_⟩
  · by_cases h6 : 6 < nm
    · refine Nat.lt_of_le_of_lt (dps_le q (hd h6)) (Nat.lt_of_le_of_lt (Nat.pow_le_pow_right (by omega) hn) wp16)
    · refine Nat.lt_of_le_of_lt (dps_le (B := 4294967296) q fun k hk => ?_) (Nat.lt_of_le_of_lt (Nat.pow_le_pow_right (by omega) (show nm ≤ 6 by omega)) wp6)
      have := (hs k hk).2
      rw [wp_one] at this
      omega
  · refine Fz.all hk ?_
    have := (hs k hk).1
    rw [wp_one] at this
    omega
section
variable {nm P : Nat} {q : Nat → Rat} {F T : Nat → Nat} {act : Nat → Bool} {r : Rat} {L : Nat} {v : Nat → Rat}
theorem exK_fz (h : Rts nm q P) (s : Nat) : ∀ k, k ≤ nm → Fz P (k * (4294967296 * P)) (exK F q s k)
  | 0, _ => (Fz.zero P).le (by omega)
  | k + 1, hk => by
    have ih := exK_fz h s k (by omega)
    rw [exK, Nat.succ_mul]
    split
    · exact ih.add (h.fz k (by omega))
    · exact ih.le (by omega)
theorem wp2 : 120 * 4294967296 < wp 2 := by decide +kernel
theorem exK_sz (h : Rts nm q P) (s : Nat) {k : Nat} (hk : k ≤ nm) : Sz 18 (exK F q s k) := by
  refine (exK_fz h s k hk).sz h.ne (by omega) (lt_wp_more h.lt (by omega)) ?_
  have h1 : k * 4294967296 < wp 2 := Nat.lt_of_le_of_lt (Nat.mul_le_mul_right _ (by have := h.few; omega)) wp2
  have := wp_mul_lt h1 h.lt
  rwa [Nat.mul_assoc] at this
/-- what a move takes, and what there is after some moves -/
theorem FzL.parts (hv : FzL L v) (h : Rts nm q P) (hr : 0 < r) (hrs : Sz 4 r) :
    (∀ k, k < nm → Sz (L + 24) (shr F q r v k)) ∧ (∀ k, k ≤ nm → FzL (L + 24) (stp act F T v (shr F q r v) k)) ∧ (∀ k, k < nm → Sz (L + 24) (v (F k) * q k)) := by
  obtain ⟨D, Z, h0, h1, h2, h3⟩ := hv
  have hP := h.lt
  have hn := h.few
  have hrn := hrs.1
  have hrd := hrs.2
  have hr0 : r.num.natAbs ≠ 0 := natAbs_num_ne (fun e => by rw [e] at hr; exact absurd hr (by decide))
  have hsh : ∀ k, k < nm → Fz (D * P * r.num.natAbs) (Z * (4294967296 * P) * r.den) (shr F q r v k) := fun k hk => by
    have e : shr F q r v k = v (F k) * q k * (1 / r) := by unfold shr; grind
    rw [e]
    exact ((h3 _).mul (h.fz k hk)).mul (Fz.inv hr)
  have hv2 : ∀ s, Fz (D * P * r.num.natAbs) (Z * P * r.num.natAbs) (v s) := fun s => ((h3 s).up P).up _
  have hD0 : D * P * r.num.natAbs ≠ 0 := Nat.mul_ne_zero (Nat.mul_ne_zero h0 h.ne) hr0
  have hD1 : D * P * r.num.natAbs < wp (L + 24) := lt_wp_more (wp_mul_lt (wp_mul_lt h1 hP) hrn) (by omega)
  have b1 : 4294967296 * P < wp 17 := by rw [← wp_lt_succ]; omega
  have b2 : Z * (4294967296 * P) * r.den < wp (L + 17 + 4) := wp_mul_lt (wp_mul_lt h2 b1) hrd
  have b3 : Z * P * r.num.natAbs < wp (L + 16 + 4) := wp_mul_lt (wp_mul_lt h2 hP) hrn
  refine ⟨fun k hk => (hsh k hk).sz hD0 (by omega) hD1 (lt_wp_more b2 (by omega)), fun k hk => ⟨_, Z * P * r.num.natAbs + k * (Z * (4294967296 * P) * r.den), hD0, hD1, ?_, stp_fz hv2 fun j hj => hsh j (by omega)⟩, fun k hk => ?_⟩
  · have b4 : k * (Z * (4294967296 * P) * r.den) < wp (1 + (L + 17 + 4)) := wp_mul_lt (by rw [wp_one]; omega) b2
    refine lt_wp_more (lt_wp_add (L := L + 22) (lt_wp_more b3 (by omega)) (lt_wp_more b4 (by omega))) (by omega)
  · refine ((h3 _).mul (h.fz k hk)).sz (Nat.mul_ne_zero h0 h.ne) (by omega) (lt_wp_more (wp_mul_lt h1 hP) (by omega)) (lt_wp_more (wp_mul_lt h2 b1) (by omega))
theorem FzL.step (hv : FzL L v) (h : Rts nm q P) (hr : 0 < r) (hrs : Sz 4 r) : FzL (L + 24) (stepV act F T q r nm v) := (hv.parts h hr hrs).2.1 nm (Nat.le_refl _)
theorem FzL.run (hv : FzL L v) (h : Rts nm q P) (hr : 0 < r) (hrs : Sz 4 r) : ∀ k, FzL (L + 24 * k) (runV act F T q r nm v k)
  | 0 => hv
  | k + 1 => by rw [runV]; exact ((hv.run h hr hrs k).step h hr hrs).more (by omega)
end
/-- short numbers, over one denominator -/
theorem FzL.of_sz {v : Nat → Rat} {n L : Nat} (h : ∀ s, s < n → Sz L (v s)) (h0 : ∀ s, n ≤ s → v s = 0) (hL : 1 ≤ L) : FzL (n * L + L + 1) v := by
  have hd : dps v n < wp (n * L + 1) := by
    have h1 := dps_le (B := wp L) v (n := n) fun k hk => Nat.le_of_lt (h k hk).2
    have h2 : ∀ n, wp L ^ n = wp (n * L) := by
      intro n
      induction n with
      | zero => rw [Nat.pow_zero, Nat.zero_mul]; rfl
      | succ n ih => rw [Nat.pow_succ, ih, Nat.succ_mul, wp_add]
    rw [h2] at h1
    refine Nat.lt_of_le_of_lt h1 ?_
    rw [← wp_lt_succ]
    have := wp_pos (n * L)
    omega
  have hz : (wp L - 1) < wp L := by have := wp_pos L; omega
  refine ⟨dps v n, (wp L - 1) * dps v n, dps_pos v n, lt_wp_more hd (by omega), lt_wp_more (wp_mul_lt hz hd) (by omega), fun s => ?_⟩
  by_cases hs : s < n
  · exact Fz.all hs (by have := (h s hs).1; omega)
  · rw [h0 s (by omega)]; exact (Fz.zero _).le (Nat.zero_le _)
end Go.Proofs.YtglpknhcneggeaaGreatDoor
