/- Contracts of functions and lemmas, used by the proofs of the given statements. No condition beyond those that each lemma names. -/
import Derived.Test.YtglpknhcneggeaaGreatDoorJBase
import Derived.Test.YtglpknhcneggeaaGreatDoorJNumD
namespace Go.Proofs.YtglpknhcneggeaaGreatDoor
set_option linter.unusedVariables false
set_option linter.unusedSimpArgs false

/-! ## fractions as the program has them (plain): sign, words of the numerator, words of the denominator -/
abbrev Rw := Bool × List Nat × List Nat
def okR (r : Rw) : Prop := W32 r.2.1 ∧ W32 r.2.2
/-- not empty, no zero at the end -/
def plainB (l : List Nat) : Bool := !l.isEmpty && l.getLast? != some 0
def validR (r : Rw) : Bool := if r.2.1.isEmpty && r.2.2.isEmpty then !r.1 else plainB r.2.1 && plainB r.2.2 && (nv r.2.1).gcd (nv r.2.2) == 1
/-- a sign, a numerator and a denominator -/
def sq (s : Bool) (n d : Nat) : Rat := if s then -mkRat n d else mkRat n d
/-- the number as which a fraction counts -/
def valR (r : Rw) : Rat := if validR r then sq r.1 (nv r.2.1) (nv r.2.2) else 0
/-- the valid form of a number -/
def canR (q : Rat) : Rw := if q = 0 then (false, [], []) else (decide (q < 0), dig q.num.natAbs, dig q.den)
theorem plainB_can {l : List Nat} (h : W32 l) : plainB l = true ↔ Can l ∧ l ≠ [] := by
  unfold plainB
  cases e : l.getLast? with
  | none => have := List.getLast?_eq_none_iff.1 e; subst this; simp
  | some x =>
    have hne : l ≠ [] := by rintro rfl; simp at e
    have hem : l.isEmpty = false := by simpa using hne
    simp only [hem, Can, e]
    constructor
    · intro h1
      have h2 : x ≠ 0 := by rintro rfl; simp at h1
      exact ⟨⟨h, fun y hy => by injection hy with hy; rw [← hy]; exact h2⟩, hne⟩
    · rintro ⟨⟨_, h1⟩, _⟩
      have := h1 x rfl
      simpa using this
theorem plainB_dig {n : Nat} (h : n ≠ 0) : plainB (dig n) = true := (plainB_can (dig_W32 n)).2 ⟨dig_can n, by rw [ne_eq, dig_nil_iff]; exact h⟩
theorem can_pos {l : List Nat} (h : Can l) (hne : l ≠ []) : nv l ≠ 0 := by
  have := nv_pos_of_last hne h.2
  have := wp_pos (l.length - 1)
  omega
theorem sq_zero (s : Bool) (d : Nat) : sq s 0 d = 0 := by cases s <;> simp [sq]
theorem mkRat_parts {n d : Nat} (hn : n ≠ 0) (hd : d ≠ 0) : (mkRat n d).num = ((n / n.gcd d : Nat) : Int) ∧ (mkRat n d).den = d / n.gcd d := by
  rw [Rat.num_mkRat, Rat.den_mkRat, if_neg hd, if_neg hd, Int.natAbs_natCast, Nat.gcd_comm d n]
  exact ⟨by simp, rfl⟩
theorem gcd_div_pos {n d : Nat} (hn : n ≠ 0) : n / n.gcd d ≠ 0 := by
  have h := Nat.gcd_dvd_left n d
  have h1 : 0 < n.gcd d := Nat.gcd_pos_of_pos_left d (by omega)
  have h2 := Nat.le_of_dvd (by omega) h
  have := Nat.div_pos h2 h1
  omega
theorem sq_ne {s : Bool} {n d : Nat} (hn : n ≠ 0) (hd : d ≠ 0) : sq s n d ≠ 0 := by
  have h : mkRat n d ≠ 0 := by rw [Rat.mkRat_ne_zero hd]; exact_mod_cast hn
  unfold sq
  split
  · intro h1; exact h (by rw [← Rat.neg_neg (mkRat n d), h1]; rfl)
  · exact h
theorem mkRat_pos {n d : Nat} (hn : n ≠ 0) (hd : d ≠ 0) : 0 < mkRat n d := by
  have h := mkRat_parts hn hd
  have h1 := gcd_div_pos (d := d) hn
  have h2 : 0 ≤ mkRat n d := by rw [← Rat.num_nonneg, h.1]; exact Int.natCast_nonneg _
  have h3 : mkRat n d ≠ 0 := sq_ne (s := false) hn hd
  exact Rat.lt_of_le_of_ne h2 (Ne.symm h3)
theorem sq_neg {s : Bool} {n d : Nat} (hn : n ≠ 0) (hd : d ≠ 0) : decide (sq s n d < 0) = s := by
  have h := mkRat_pos hn hd
  cases s
  · simp only [sq]
    simp only [Bool.false_eq_true, if_false, decide_eq_false_iff_not, Rat.not_lt]
    exact Rat.le_of_lt h
  · simp only [sq, if_true, decide_eq_true_eq]
    rw [Rat.neg_lt_iff]; simpa using h
/-- the valid form of num / den -/
theorem canR_sq (s : Bool) {n d : Nat} (hn : n ≠ 0) (hd : d ≠ 0) : canR (sq s n d) = (s, dig (n / n.gcd d), dig (d / n.gcd d)) := by
  obtain ⟨h1, h2⟩ := mkRat_parts hn hd
  unfold canR
  rw [if_neg (sq_ne hn hd), sq_neg hn hd]
  cases s
  · simp only [sq, Bool.false_eq_true, if_false, h1, h2, Int.natAbs_natCast]
  · simp only [sq, if_true, Rat.neg_num, Rat.neg_den, h1, h2, Int.natAbs_neg, Int.natAbs_natCast]
theorem canR_zero : canR 0 = (false, [], []) := by simp [canR]
theorem sq_self (q : Rat) : sq (decide (q < 0)) q.num.natAbs q.den = q := by
  have h := Rat.mkRat_self q
  by_cases hq : q < 0
  · have hn : q.num < 0 := by
      rcases Int.lt_or_le q.num 0 with h1 | h1
      · exact h1
      · rw [Rat.num_nonneg, ← Rat.not_lt] at h1; exact absurd hq h1
    simp only [sq, hq, decide_true, if_true]
    rw [Rat.neg_mkRat, show -((q.num.natAbs : Nat) : Int) = q.num by omega, h]
  · have hn : 0 ≤ q.num := by rw [Rat.num_nonneg]; exact Rat.not_lt.1 hq
    simp only [sq, hq, decide_false, Bool.false_eq_true, if_false]
    rw [show ((q.num.natAbs : Nat) : Int) = q.num by omega, h]
theorem natAbs_num_ne {q : Rat} (h : q ≠ 0) : q.num.natAbs ≠ 0 := by
  intro h1; exact h (Rat.num_eq_zero.1 (by omega))
theorem canR_ok (q : Rat) : okR (canR q) := by
  unfold canR
  split
  · exact ⟨W32.nil, W32.nil⟩
  · exact ⟨dig_W32 _, dig_W32 _⟩
theorem canR_valid (q : Rat) : validR (canR q) = true := by
  unfold canR
  split
  · rfl
  · rename_i h
    have h1 := natAbs_num_ne h
    have e : (dig q.num.natAbs).isEmpty = false := by simp [dig_nil_iff, h1]
    simp only [validR, e, Bool.false_and, Bool.false_eq_true, if_false, plainB_dig h1, plainB_dig q.den_nz, nv_dig, Bool.true_and, beq_iff_eq]
    exact q.reduced
theorem valR_canR (q : Rat) : valR (canR q) = q := by
  unfold valR
  rw [if_pos (canR_valid q)]
  unfold canR
  split
  · rename_i h; subst h; rfl
  · rw [nv_dig, nv_dig, sq_self]
/-- a fraction that is valid is the valid form of its number -/
theorem canR_valR {r : Rw} (hok : okR r) (h : validR r = true) : canR (valR r) = r := by
  obtain ⟨s, n, d⟩ := r
  unfold valR
  rw [if_pos h]
  unfold validR at h
  simp only at h ⊢
  split at h
  · rename_i h0
    simp only [Bool.and_eq_true, List.isEmpty_iff] at h0
    obtain ⟨rfl, rfl⟩ := h0
    have hs : s = false := by simpa using h
    subst hs
    rw [nv_nil, sq_zero, canR_zero]
  · simp only [Bool.and_eq_true, beq_iff_eq] at h
    obtain ⟨⟨h1, h2⟩, h3⟩ := h
    obtain ⟨c1, n1⟩ := (plainB_can hok.1).1 h1
    obtain ⟨c2, n2⟩ := (plainB_can hok.2).1 h2
    rw [canR_sq s (can_pos c1 n1) (can_pos c2 n2), h3, Nat.div_one, Nat.div_one, dig_nv c1, dig_nv c2]
theorem canR_inj {a b : Rat} (h : canR a = canR b) : a = b := by rw [← valR_canR a, ← valR_canR b, h]
theorem valid_iff {r : Rw} (hok : okR r) : validR r = true ↔ canR (valR r) = r := ⟨canR_valR hok, fun h => h ▸ canR_valid _⟩
theorem valR_of_not {r : Rw} (h : validR r = false) : valR r = 0 := by unfold valR; rw [h]; rfl
/-- sign, numerator, denominator as which a fraction counts -/
def ptsR (r : Rw) : Rw := if !validR r || r.2.1.isEmpty then (false, [], [1]) else r
structure Pts (r : Rw) (p : Rw) : Prop where
  can1 : Can p.2.1
  can2 : Can p.2.2
  den : nv p.2.2 ≠ 0
  val : valR r = sq p.1 (nv p.2.1) (nv p.2.2)
theorem can_one : Can [1] := ⟨W32.one (by omega), fun x hx => by simp at hx; omega⟩
theorem ptsR_pts {r : Rw} (hok : okR r) : Pts r (ptsR r) := by
  unfold ptsR
  cases hv : validR r
  · exact ⟨Can.nil, can_one, by simp [nv], by rw [valR_of_not hv]; exact (sq_zero _ _).symm⟩
  · cases he : r.2.1.isEmpty
    · have hv' := hv
      unfold validR at hv'
      rw [he] at hv'
      simp only [Bool.false_and, Bool.false_eq_true, if_false, Bool.and_eq_true, beq_iff_eq] at hv'
      obtain ⟨c1, n1⟩ := (plainB_can hok.1).1 hv'.1.1
      obtain ⟨c2, n2⟩ := (plainB_can hok.2).1 hv'.1.2
      exact ⟨c1, c2, can_pos c2 n2, by unfold valR; rw [if_pos hv]; rfl⟩
    · refine ⟨Can.nil, can_one, by simp [nv], ?_⟩
      simp only [Bool.not_true, Bool.false_or, if_true]
      unfold valR
      rw [if_pos hv, List.isEmpty_iff.1 he, nv_nil, sq_zero, sq_zero]
theorem ptsR_zero {r : Rw} (hok : okR r) : (ptsR r).2.1 = [] ↔ valR r = 0 := by
  have h := ptsR_pts hok
  constructor
  · intro h1; rw [h.val, h1, nv_nil, sq_zero]
  · intro h1
    rcases Nat.eq_zero_or_pos (nv (ptsR r).2.1) with h2 | h2
    · have := dig_nv h.can1
      rw [h2, dig_zero] at this
      exact this.symm
    · rw [h.val] at h1
      exact absurd h1 (sq_ne (by omega) h.den)

/-! ## laws of the four operations -/
theorem sq_eq_div (s : Bool) (n d : Nat) : sq s n d = (if s then -1 else 1) * (n : Rat) / (d : Rat) := by
  unfold sq
  rw [Rat.mkRat_eq_div]
  have e : (((n : Nat) : Int) : Rat) = (n : Rat) := rfl
  rw [e]
  cases s
  · simp
  · simp only [if_true, Rat.div_def]
    rw [Rat.neg_mul, Rat.one_mul, Rat.neg_mul]
theorem cast_ne {d : Nat} (h : d ≠ 0) : (d : Rat) ≠ 0 := by exact_mod_cast h
theorem sq_mul (s t : Bool) (n m d e : Nat) (hd : d ≠ 0) (he : e ≠ 0) : sq s n d * sq t m e = sq (s != t) (n * m) (d * e) := by
  rw [sq_eq_div, sq_eq_div, sq_eq_div]
  have h1 := cast_ne hd
  have h2 := cast_ne he
  rw [Rat.natCast_mul, Rat.natCast_mul]
  cases s <;> cases t <;> simp <;> grind
theorem sq_add_same (s : Bool) (n m d e : Nat) (hd : d ≠ 0) (he : e ≠ 0) : sq s n d + sq s m e = sq s (n * e + m * d) (d * e) := by
  rw [sq_eq_div, sq_eq_div, sq_eq_div]
  have h1 := cast_ne hd
  have h2 := cast_ne he
  rw [Rat.natCast_add, Rat.natCast_mul, Rat.natCast_mul, Rat.natCast_mul]
  cases s <;> simp <;> grind
theorem sq_add_ne (s t : Bool) (n m d e : Nat) (hd : d ≠ 0) (he : e ≠ 0) (hst : s ≠ t) (h : m * d ≤ n * e) : sq s n d + sq t m e = sq s (n * e - m * d) (d * e) := by
  rw [sq_eq_div, sq_eq_div, sq_eq_div]
  have h1 := cast_ne hd
  have h2 := cast_ne he
  have h3 : ((n * e - m * d : Nat) : Rat) = (n : Rat) * e - (m : Rat) * d := by
    have h4 : n * e = (n * e - m * d) + m * d := by omega
    have h5 : ((n * e : Nat) : Rat) = ((n * e - m * d : Nat) : Rat) + ((m * d : Nat) : Rat) := by rw [← Rat.natCast_add, ← h4]
    rw [Rat.natCast_mul, Rat.natCast_mul] at h5
    grind
  rw [h3, Rat.natCast_mul]
  cases s <;> cases t <;> simp at hst ⊢ <;> grind
theorem sq_div (s t : Bool) (n m d e : Nat) (hd : d ≠ 0) (he : e ≠ 0) (hm : m ≠ 0) : sq s n d / sq t m e = sq (s != t) (n * e) (d * m) := by
  rw [sq_eq_div, sq_eq_div, sq_eq_div]
  have h1 := cast_ne hd
  have h2 := cast_ne he
  have h3 := cast_ne hm
  rw [Rat.natCast_mul, Rat.natCast_mul]
  cases s <;> cases t <;> simp <;> grind
theorem sq_not (s : Bool) (n d : Nat) : sq (!s) n d = -sq s n d := by cases s <;> simp [sq, Rat.neg_neg]
/-- -1, 0, 1 -/
def sgnQ (q : Rat) : Int := if q = 0 then 0 else if q < 0 then -1 else 1

/-! ## how many words a number has -/
def Sz (L : Nat) (q : Rat) : Prop := q.num.natAbs < wp L ∧ q.den < wp L
theorem Sz.more {L M : Nat} {q : Rat} (h : Sz L q) (hL : L ≤ M) : Sz M q := ⟨Nat.lt_of_lt_of_le h.1 (wp_le hL), Nat.lt_of_lt_of_le h.2 (wp_le hL)⟩
theorem Sz.zero {L : Nat} (hL : 1 ≤ L) : Sz L 0 := ⟨Nat.lt_of_lt_of_le (show (0 : Rat).num.natAbs < wp 1 by decide) (wp_le hL), Nat.lt_of_lt_of_le (show (0 : Rat).den < wp 1 by decide) (wp_le hL)⟩
theorem Sz_sq {L : Nat} {s : Bool} {n d : Nat} (hL : 1 ≤ L) (hn : n < wp L) (hd : d < wp L) (hd0 : d ≠ 0) : Sz L (sq s n d) := by
  by_cases h0 : n = 0
  · subst h0; rw [sq_zero]; exact Sz.zero hL
  · obtain ⟨h1, h2⟩ := mkRat_parts h0 hd0
    have h3 : (sq s n d).num.natAbs = n / n.gcd d := by
      cases s
      · simp only [sq, Bool.false_eq_true, if_false, h1, Int.natAbs_natCast]
      · simp only [sq, if_true, Rat.neg_num, h1, Int.natAbs_neg, Int.natAbs_natCast]
    have h4 : (sq s n d).den = d / n.gcd d := by
      cases s
      · simp only [sq, Bool.false_eq_true, if_false, h2]
      · simp only [sq, if_true, Rat.neg_den, h2]
    exact ⟨by rw [h3]; exact Nat.lt_of_le_of_lt (Nat.div_le_self _ _) hn, by rw [h4]; exact Nat.lt_of_le_of_lt (Nat.div_le_self _ _) hd⟩
theorem wp_mul_lt {a b L M : Nat} (ha : a < wp L) (hb : b < wp M) : a * b < wp (L + M) := by
  rw [wp_add]
  rcases Nat.eq_zero_or_pos b with h | h
  · subst h; rw [Nat.mul_zero]; exact Nat.mul_pos (wp_pos _) (wp_pos _)
  · exact Nat.lt_of_lt_of_le (Nat.mul_lt_mul_of_pos_right ha h) (Nat.mul_le_mul_left _ (by omega))
theorem Sz.mul {L M : Nat} {a b : Rat} (ha : Sz L a) (hb : Sz M b) (hL : 1 ≤ L) : Sz (L + M) (a * b) := by
  rw [← sq_self a, ← sq_self b, sq_mul _ _ _ _ _ _ a.den_nz b.den_nz]
  exact Sz_sq (by omega) (wp_mul_lt ha.1 hb.1) (wp_mul_lt ha.2 hb.2) (Nat.mul_ne_zero a.den_nz b.den_nz)
theorem Sz.add {L M : Nat} {a b : Rat} (ha : Sz L a) (hb : Sz M b) : Sz (L + M + 1) (a + b) := by
  rw [← sq_self a, ← sq_self b]
  have h1 := wp_mul_lt ha.1 hb.2
  have h2 := wp_mul_lt hb.1 ha.2
  have h3 := wp_mul_lt ha.2 hb.2
  have h4 : wp (L + M + 1) = 4294967296 * wp (L + M) := wp_succ _
  rw [Nat.add_comm M L] at h2
  have hd := Nat.mul_ne_zero a.den_nz b.den_nz
  by_cases hs : decide (a < 0) = decide (b < 0)
  · rw [hs, sq_add_same _ _ _ _ _ a.den_nz b.den_nz]
    exact Sz_sq (by omega) (by omega) (by omega) hd
  · rcases Nat.le_total (b.num.natAbs * a.den) (a.num.natAbs * b.den) with h5 | h5
    · rw [sq_add_ne _ _ _ _ _ _ a.den_nz b.den_nz hs h5]
      exact Sz_sq (by omega) (by omega) (by omega) hd
    · rw [Rat.add_comm, sq_add_ne _ _ _ _ _ _ b.den_nz a.den_nz (Ne.symm hs) h5, Nat.mul_comm b.den]
      exact Sz_sq (by omega) (by omega) (by omega) hd
theorem Sz.neg {L : Nat} {a : Rat} (h : Sz L a) : Sz L (-a) := ⟨by rw [Rat.neg_num, Int.natAbs_neg]; exact h.1, h.2⟩
theorem Sz.sub {L M : Nat} {a b : Rat} (ha : Sz L a) (hb : Sz M b) : Sz (L + M + 1) (a - b) := by
  rw [Rat.sub_eq_add_neg]; exact ha.add hb.neg
theorem Sz.div {L M : Nat} {a b : Rat} (ha : Sz L a) (hb : Sz M b) (hL : 1 ≤ L) : Sz (L + M) (a / b) := by
  by_cases h0 : b = 0
  · subst h0; rw [Rat.div_def, Rat.inv_zero, Rat.mul_zero]; exact Sz.zero (by omega)
  · rw [← sq_self a, ← sq_self b, sq_div _ _ _ _ _ _ a.den_nz b.den_nz (natAbs_num_ne h0)]
    exact Sz_sq (by omega) (wp_mul_lt ha.1 hb.2) (wp_mul_lt ha.2 hb.1) (Nat.mul_ne_zero a.den_nz (natAbs_num_ne h0))
theorem Sz_canR {L : Nat} {q : Rat} (h : Sz L q) : (canR q).2.1.length ≤ L ∧ (canR q).2.2.length ≤ L := by
  unfold canR
  split
  · exact ⟨Nat.zero_le _, Nat.zero_le _⟩
  · exact ⟨dig_length_le h.1, dig_length_le h.2⟩
theorem Sz_valR {L : Nat} {r : Rw} (hok : okR r) (hL : 1 ≤ L) (h1 : r.2.1.length ≤ L) (h2 : r.2.2.length ≤ L) : Sz L (valR r) := by
  have h := ptsR_pts hok
  rw [h.val]
  have k1 : (ptsR r).2.1.length ≤ L := by unfold ptsR; split; exact Nat.zero_le _; exact h1
  have k2 : (ptsR r).2.2.length ≤ L := by unfold ptsR; split; exact hL; exact h2
  exact Sz_sq hL (Nat.lt_of_lt_of_le (nv_lt h.can1.1) (wp_le k1)) (Nat.lt_of_lt_of_le (nv_lt h.can2.1) (wp_le k2)) h.den
end Go.Proofs.YtglpknhcneggeaaGreatDoor
namespace Go.Proofs.YtglpknhcneggeaaGreatDoor
open Go.RowKit
set_option linter.unusedSimpArgs false
set_option linter.unusedVariables false
set_option maxRecDepth 20000
attribute [local irreducible] nv wp win
/-! ## package rational: one, plain -/
theorem one_any (w : World) : Calls Tryz.prog 67 #[] w fun e w' => ∃ A', e = .returned (.slice A' 1 1) ∧ OwW w' w.heap.size A' 1 [1] ∧ Below w.heap.size w w' := by
  go_enter Tryz.func67, Tryz.ntmps67
  go_wp2
  go_ret
  exact ⟨_, rfl, OwW.lit1 (x := 1) (Nat.le_refl _), (Below.refl _ _).alloc (Nat.le_refl _) _⟩
theorem plain_any (A : Option Addr) (l : List Nat) (n c : Nat) (w : World) (hl : l.length = n) (hn : n ≤ 1099511627776) (hW : W32 l) (h : RdW w w.heap.size A l) :
    Calls Tryz.prog 129 #[.slice A n c] w fun e w' => e = .returned (.bool (plainB l)) ∧ w = w' := by
  subst hl
  by_cases h0 : l.length = 0
  · have hl : l = [] := List.length_eq_zero_iff.1 h0
    subst hl
    go_enter Tryz.func129, Tryz.ntmps129
    go_wp2
    go_ret
    exact ⟨rfl, rfl⟩
  · have hlt : l.length - 1 < l.length := by omega
    obtain ⟨b, off, rfl, hb, hc⟩ := h.at_ hlt
    have hx := hW.at_ hlt
    have HP : Hid (plainB l = decide (l[l.length - 1] ≠ 0)) := by
      show plainB l = _
      unfold plainB
      rw [List.getLast?_eq_getElem?, List.getElem?_eq_getElem hlt]
      have h1 : l.isEmpty = false := by cases l; exact absurd rfl h0; rfl
      rw [h1]
      by_cases h2 : l[l.length - 1] = 0 <;> simp [h2]
    rw [HP.out]
    generalize l[l.length - 1] = x at *
    by_cases hx0 : x = 0
    · subst hx0
      go_enter Tryz.func129, Tryz.ntmps129
      go_wp2
      go_ret
      exact ⟨rfl, rfl⟩
    · have hx1 : ((x : Int) == 0) = false := by simpa using hx0
      go_enter Tryz.func129, Tryz.ntmps129
      go_wp2
      go_ret
      exact ⟨by simp [hx0], rfl⟩
end Go.Proofs.YtglpknhcneggeaaGreatDoor
namespace Go.Proofs.YtglpknhcneggeaaGreatDoor
open Go.RowKit
set_option linter.unusedSimpArgs false
set_option linter.unusedVariables false
set_option maxRecDepth 20000
attribute [local irreducible] nv wp win plainB validR
/-! ## package rational: Valid -/
abbrev rv (s : Bool) (A : Option Addr) (n c : Nat) (B : Option Addr) (m d : Nat) : Value := .agg #[.bool s, .slice A n c, .slice B m d]
theorem cmp_zero (a b : Nat) : (cmpN a b == 0) = (a == b) := by
  unfold cmpN
  split
  · have : a ≠ b := by omega
    simp [this]
  · split
    · rename_i h; simp [h]
    · rename_i h; simp [h]
theorem validR_no1 {s : Bool} {l m : List Nat} (h0 : ¬ (l.length = 0 ∧ m.length = 0)) (h : plainB l = false) : validR (s, l, m) = false := by
  unfold validR
  rw [if_neg (by simp only [Bool.and_eq_true, List.isEmpty_iff]; rintro ⟨h1, h2⟩; exact h0 ⟨by simp [h1], by simp [h2]⟩), h]
  rfl
theorem validR_zero {s : Bool} : validR (s, [], []) = !s := by unfold validR; rfl
theorem validR_no2 {s : Bool} {l m : List Nat} (h0 : ¬ (l.length = 0 ∧ m.length = 0)) (h : plainB m = false) : validR (s, l, m) = false := by
  unfold validR
  rw [if_neg (by simp only [Bool.and_eq_true, List.isEmpty_iff]; rintro ⟨h1, h2⟩; exact h0 ⟨by simp [h1], by simp [h2]⟩), h]
  simp
theorem validR_yes {s : Bool} {l m : List Nat} (h0 : ¬ (l.length = 0 ∧ m.length = 0)) (h1 : plainB l = true) (h2 : plainB m = true) : validR (s, l, m) = ((nv l).gcd (nv m) == 1) := by
  unfold validR
  rw [if_neg (by simp only [Bool.and_eq_true, List.isEmpty_iff]; rintro ⟨h1, h2⟩; exact h0 ⟨by simp [h1], by simp [h2]⟩), h1, h2]
  simp
set_option maxHeartbeats 1000000 in
theorem valid_any (s : Bool) (A B : Option Addr) (l m : List Nat) (n c n' c' : Nat) (w : World) (hl : l.length = n) (hm : m.length = n') (hn : n ≤ 274877906900) (hn' : n' ≤ 274877906900) (hcap : n ≤ c) (hcap' : n' ≤ c') (hW : W32 l) (hW' : W32 m)
    (h : RdW w w.heap.size A l) (h' : RdW w w.heap.size B m) :
    Calls Tryz.prog 90 #[rv s A n c B n' c'] w fun e w' => e = .returned (.bool (validR (s, l, m))) ∧ Below w.heap.size w w' := by
  have hbA : ∀ o, Below w.heap.size w (w.alloc o) := fun o => (Below.refl _ _).alloc (Nat.le_refl _) o
  by_cases h0 : n = 0 ∧ n' = 0
  · obtain ⟨rfl, rfl⟩ := h0
    obtain rfl := List.length_eq_zero_iff.1 hl
    obtain rfl := List.length_eq_zero_iff.1 hm
    rw [validR_zero]
    go_enter Tryz.func90, Tryz.ntmps90
    go_wp2
    go_ret
    exact ⟨rfl, hbA _⟩
  · have h0' : ¬ (l.length = 0 ∧ m.length = 0) := by rw [hl, hm]; exact h0
    have H0 := Lib.hid h0'
    have K1 := Lib.hid (fun W hr => plain_any A l n c W hl (by omega) hW hr)
    have K2 := Lib.hid (fun W hr => plain_any B m n' c' W hm (by omega) hW' hr)
    have hbW := fun o W (hb : Below w.heap.size (w.alloc o) W) => (hbA o).trans hb
    by_cases hn0 : n = 0
    · subst hn0
      have hz : ((n' : Int) == 0) = false := by simp; omega
      have HF : Hid (plainB l = false) := by
        obtain rfl := List.length_eq_zero_iff.1 hl
        show plainB [] = false
        unfold plainB; rfl
      have K1' := Lib.hid (K1.out (w.alloc (.cells #[.bool s, .slice A 0 c, .slice B n' c'] 28)) (h.on (hbA _) (by simp)))
      rw [HF.out] at K1'
      rw [validR_no1 H0.out HF.out]
      go_enter Tryz.func90, Tryz.ntmps90
      go_wp2_with (first | (go_at_call 129; (with_reducible refine (K1'.out).mono ?_); rintro e _ ⟨rfl, rfl⟩))
      go_ret
      exact ⟨rfl, hbA _⟩
    · have hz : ((n : Int) == 0) = false := by simp; omega
      obtain ⟨W1, hW1⟩ : ∃ W1, W1 = w.alloc (.cells #[.bool s, .slice A n c, .slice B n' c'] 28) := ⟨_, rfl⟩
      have hA1 := h.on (hbA (.cells #[.bool s, .slice A n c, .slice B n' c'] 28)) (B' := W1.heap.size) (by rw [hW1]; simp)
      have hB1 := h'.on (hbA (.cells #[.bool s, .slice A n c, .slice B n' c'] 28)) (B' := W1.heap.size) (by rw [hW1]; simp)
      rw [hW1] at hA1 hB1
      have K1' := K1.out _ hA1
      have K2' := K2.out _ hB1
      cases hp1 : plainB l with
      | false =>
        rw [validR_no1 H0.out hp1]
        rw [hp1] at K1'
        have K1' := Lib.hid K1'
        clear hp1
        go_enter Tryz.func90, Tryz.ntmps90
        go_wp2_with (first | (go_at_call 129; (with_reducible refine (K1'.out).mono ?_); rintro e _ ⟨rfl, rfl⟩))
        go_ret
        exact ⟨rfl, hbA _⟩
      | true =>
        rw [hp1] at K1'
        have K1' := Lib.hid K1'
        cases hp2 : plainB m with
        | false =>
          rw [validR_no2 H0.out hp2]
          rw [hp2] at K2'
          have K2' := Lib.hid K2'
          clear hp1 hp2
          go_enter Tryz.func90, Tryz.ntmps90
          go_wp2_with (first | (go_at_call 129; (with_reducible refine (K1'.out).mono ?_); rintro e _ ⟨rfl, rfl⟩) | (go_at_call 129; (with_reducible refine (K2'.out).mono ?_); rintro e _ ⟨rfl, rfl⟩))
          go_ret
          exact ⟨rfl, hbA _⟩
        | true =>
          rw [validR_yes H0.out hp1 hp2, ← cmp_zero]
          rw [hp2] at K2'
          have K2' := Lib.hid K2'
          have K3 := Lib.hid (gcd_any A B l m n c n' c' _ hl hm (by omega) (by omega) hcap hcap' hW hW' hA1 hB1)
          have hg : (dig ((nv l).gcd (nv m))).length ≤ 549755813888 := by
            have b1 : (dig (nv l)).length ≤ n := Nat.le_trans (dig_length_le (nv_lt hW)) (by omega)
            have b2 : (dig (nv m)).length ≤ n' := Nat.le_trans (dig_length_le (nv_lt hW')) (by omega)
            rcases Nat.eq_zero_or_pos (nv l) with e | e
            · rw [e, Nat.gcd_zero_left]; omega
            · have := dig_len_mono (Nat.gcd_le_left (nv m) e); omega
          generalize (nv l).gcd (nv m) = g at *
          clear hp1 hp2
          go_enter Tryz.func90, Tryz.ntmps90
          go_wp2_with (first | (go_at_call 129; (with_reducible refine (K1'.out).mono ?_); rintro e _ ⟨rfl, rfl⟩) | (go_at_call 129; (with_reducible refine (K2'.out).mono ?_); rintro e _ ⟨rfl, rfl⟩) | fail)
          (with_reducible refine (K3.out).mono ?_)
          rintro e w3 ⟨A3, c3, rfl, own3, hb3⟩
          (go_wp2_with fail; (with_reducible refine (one_any w3).mono ?_); rintro e w4 ⟨A4, rfl, own4, hb4⟩; have hb4z := Below.size hb4; (try simp only [World.size_alloc, World.size_setCell, World.size_drew, size_drewN'] at hb4z))
          have own3' := own3.below hb4
          (go_wp2_with fail; (with_reducible refine (cmp_any A3 A4 (dig g) [1] _ c3 1 1 w4 rfl rfl (by omega) (by omega) own3'.cap (by omega) (dig_W32 g) (W32.one (by omega)) own3'.rd own4.rd).mono ?_); rintro e w5 ⟨rfl, hb5⟩; have hb5z := Below.size hb5; (try simp only [World.size_alloc, World.size_setCell, World.size_drew, size_drewN'] at hb5z))
          rw [nv_dig, nv_one]
          obtain ⟨q, hq⟩ : ∃ q, q = cmpN g 1 := ⟨_, rfl⟩
          rw [← hq]
          have HQ := Lib.hid hq
          clear hq
          have hb3' := hbW _ _ (hb3.mono (by simp))
          go_wp2
          go_ret
          exact ⟨by rw [← HQ.out]; rfl, (by have z0 := Below.size hb3'; have z1 := Below.size hb4; have z2 := Below.size hb5; (try simp only [World.size_alloc, World.size_setCell, World.size_drew, size_drewN'] at z0 z1 z2 ⊢; skip); repeat' (first | (with_reducible exact Below.refl _ _) | (with_reducible assumption) | (with_reducible refine Below.alloc ?_ ?_ _) | (with_reducible refine Below.drew ?_) | (with_reducible refine below_drewN ?_ _) | (with_reducible refine Below.setCell ?_ ?_ _) | (with_reducible refine Below.trans ?_ (Below.mono (by with_reducible assumption) ?_)) | omega | (simp only [World.size_alloc, World.size_setCell, World.size_drew, size_drewN']; omega) | go_size))⟩
end Go.Proofs.YtglpknhcneggeaaGreatDoor
