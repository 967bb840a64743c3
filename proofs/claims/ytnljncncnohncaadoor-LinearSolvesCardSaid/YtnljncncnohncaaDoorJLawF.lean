/- Contracts of functions and lemmas, used by the proofs of the given statements. No condition beyond those that each lemma names. -/
import Derived.Test.YtnljncncnohncaaDoorJLinR
import Derived.Test.YtnljncncnohncaaDoorJLawL
import Derived.Test.YtnljncncnohncaaDoorLinT
namespace Go.Proofs.YtnljncncnohncaaDoor
open Go.RowKit
set_option linter.unusedSimpArgs false
set_option linter.unusedVariables false
set_option maxRecDepth 20000
attribute [local irreducible] nv wp win plainB validR valR canR
/-! ## Apply and Mul where the shapes do not fit; the reference's errors -/
section
variable {w : World} {n m ca : Nat} {A : Option Addr} {len : Nat → Nat} {R : Nat → Nat → Rw} {c : Int}
theorem apply_shape (h : MatI w w.heap.size A n len R) (hcode : codeM n len = 0) (hm : m ≠ len 0) (B : Option Addr) (cb : Nat) :
    Calls Tryd.prog 34 #[.slice A n ca, .slice B m cb] w fun e w' => e = .returned (.tuple #[.slice none 0 0, .iface 42 (.int .i64 11)]) ∧ w = w' := by
  obtain ⟨hn0, hl0, hn, hl, hall⟩ := codeM_zero hcode
  have K0 := Lib.hid (check_any (ca := ca) h (by omega) (fun i hi => by rw [hall i hi]; omega))
  rw [hcode, errM_0] at K0
  obtain ⟨b, off, A0, c0, rfl, hc0, hrows⟩ := h.at0 hn0
  have e1 : ((m : Int) == (len 0 : Int)) = false := beq_eq_false_iff_ne.2 (by omega)
  have e2 : ((m : Int) != (len 0 : Int)) = true := by rw [bne_iff_ne]; omega
  clear h hcode hm hrows hall
  generalize len 0 = l0 at *
  go_enter Tryd.func34, Tryd.ntmps34
  go_wp2_with (first | (go_at_call 24; (with_reducible refine (K0.out).mono ?_); rintro e _ ⟨rfl, rfl⟩) | fail)
  go_ret2
  exact ⟨rfl, rfl⟩
theorem rapply_err (K : Hid (Calls Tryd.prog 19 #[.slice A n ca] w fun e w' => e = .returned (.int .i64 c) ∧ w = w')) (h0 : c ≠ 0) (B : Value) :
    Calls Tryd.prog 35 #[.slice A n ca, B] w fun e w' => e = .returned (.tuple #[.slice none 0 0, .int .i64 c]) ∧ w = w' := by
  have e1 : (c == 0) = false := by simp [h0]
  have e2 : (c != 0) = true := by simp [h0]
  clear h0
  go_enter Tryd.func35, Tryd.ntmps35
  go_wp2_with (first | (go_at_call 19; (with_reducible refine (K.out).mono ?_); rintro e _ ⟨rfl, rfl⟩) | fail)
  go_ret2
  exact ⟨rfl, rfl⟩
theorem rapply_shape (h : MatI w w.heap.size A n len R) (hcode : codeM n len = 0) (hm : m ≠ len 0) (B : Option Addr) (cb : Nat) :
    Calls Tryd.prog 35 #[.slice A n ca, .slice B m cb] w fun e w' => e = .returned (.tuple #[.slice none 0 0, .int .i64 11]) ∧ w = w' := by
  obtain ⟨hn0, hl0, hn, hl, hall⟩ := codeM_zero hcode
  have K0 := Lib.hid (rcheck_any (ca := ca) h (by omega) (fun i hi => by rw [hall i hi]; omega))
  rw [hcode] at K0
  obtain ⟨b, off, A0, c0, rfl, hc0, hrows⟩ := h.at0 hn0
  have e1 : ((m : Int) == (len 0 : Int)) = false := beq_eq_false_iff_ne.2 (by omega)
  have e2 : ((m : Int) != (len 0 : Int)) = true := by rw [bne_iff_ne]; omega
  clear h hcode hm hrows hall
  generalize len 0 = l0 at *
  go_enter Tryd.func35, Tryd.ntmps35
  go_wp2_with (first | (go_at_call 19; (with_reducible refine (K0.out).mono ?_); rintro e _ ⟨rfl, rfl⟩) | fail)
  go_ret2
  exact ⟨rfl, rfl⟩
end
end Go.Proofs.YtnljncncnohncaaDoor
namespace Go.Proofs.YtnljncncnohncaaDoor
open Go.RowKit
set_option linter.unusedSimpArgs false
set_option linter.unusedVariables false
set_option maxRecDepth 20000
attribute [local irreducible] nv wp win plainB validR valR canR
/-! ## Apply and Mul, of the program and of the reference, in one form each: the error's number and what is returned -/
section
variable {w w' : World} {b b0 b1 n m n' c d ca cb : Nat} {A B : Option Addr} {len len' : Nat → Nat} {R R' : Nat → Nat → Rw} {Rx : Nat → Rw} {M : Mf} {f : Nat → Rat} {k : Int} {z : Value} {e : Ending}
theorem MatI.base (h : MatI w b0 A n len R) (hb : b0 ≤ b1) : MatI w b1 A n len R := by
  obtain ⟨Ar, cp, h1, h2, h3⟩ := h
  exact ⟨Ar, cp, h1, fun hn a ha => Nat.lt_of_lt_of_le (h2 hn a ha) hb, fun i hi => ⟨(h3 i hi).1, (h3 i hi).2.base hb⟩⟩
theorem RowA.ok (h : RowA w b0 A n Rx) {k : Nat} (hk : k < n) : okR (Rx k) := by
  obtain ⟨V, h1, _⟩ := h
  obtain ⟨A, c, B, d, _, _, _, h4, _⟩ := h1 k hk
  exact h4
theorem MatI.ok (h : MatI w b0 A n len R) {i k : Nat} (hi : i < n) (hk : k < len i) : okR (R i k) := by
  obtain ⟨Ar, cp, _, _, h3⟩ := h
  exact (h3 i hi).2.ra.ok hk
theorem MatI.at_below (h : MatI w w.heap.size A n len R) (hb : Below w.heap.size w w') : MatI w' w'.heap.size A n len R := (h.kp (Kp.of_below hb)).base hb.size
theorem RowI.at_below (h : RowI w w.heap.size A n Rx) (hb : Below w.heap.size w w') : RowI w' w'.heap.size A n Rx := (h.kp (Kp.of_below hb)).base hb.size
theorem MatG.mo {o : Nat} (h : MatG w b o c n len M) : MatO w b (some ⟨o, 0, none⟩) c n len M := by
  obtain ⟨_, _, Ar, cp, _, _, _, h1, h2⟩ := h
  exact ⟨Ar, cp, h1, h2⟩
/-- small and accepted -/
theorem SmallM.acc (h : SmallM n len R) (hc : codeM n len = 0) : n ≤ 7 ∧ len 0 ≤ 7 ∧ 0 < n ∧ 0 < len 0 ∧ (∀ i, i < n → len i = len 0) ∧ ∀ i k, i < n → k < len 0 → (R i k).2.1.length ≤ 3 ∧ (R i k).2.2.length ≤ 3 := by
  obtain ⟨h1, h2, h3, h4, h5⟩ := codeM_zero hc
  have hn := h.1
  have hl := (h.2 0 h1).1
  unfold okN at hn hl
  exact ⟨by omega, by omega, h1, h2, h5, fun i k hi hk => (h.2 i hi).2 k (by rw [h5 i hi]; exact hk)⟩
theorem SmallM.le (h : SmallM n len R) : n ≤ 1000 ∧ ∀ i, i < n → len i ≤ 1000 := by
  have hn := h.1
  unfold okN at hn
  refine ⟨by omega, fun i hi => ?_⟩
  have := (h.2 i hi).1
  unfold okN at this
  omega
def outN (c : Int) (n : Nat) : Nat := if c = 0 then n else 0
theorem outN_0 : outN 0 n = n := if_pos rfl
theorem outN_n (h : k ≠ 0) : outN k n = 0 := if_neg h
/-- a vector and an error -/
def RetAe (b n : Nat) (k : Int) (f : Nat → Rat) (z : Value) (e : Ending) (w' : World) : Prop := ∃ A d, e = .returned (.tuple #[.slice A (outN k n) d, z]) ∧ OwR w' b A d (outN k n) (can f)
/-- a matrix and an error -/
def RetMe (b n p : Nat) (k : Int) (F : Mf) (z : Value) (e : Ending) (w' : World) : Prop := ∃ A d, e = .returned (.tuple #[.slice A (outN k n) d, z]) ∧ MatO w' b A d (outN k n) (fun _ => p) F
theorem RetAe.err (h : k ≠ 0) (he : e = .returned (.tuple #[.slice none 0 0, z])) : RetAe b n k f z e w' := ⟨none, 0, by rw [outN_n h]; exact he, by rw [outN_n h]; exact OwR.nil_ _ _ _⟩
theorem RetMe.err {p : Nat} (h : k ≠ 0) (he : e = .returned (.tuple #[.slice none 0 0, z])) : RetMe b n p k M z e w' := ⟨none, 0, by rw [outN_n h]; exact he, by rw [outN_n h]; exact MatO.nil_ _ _ _ _⟩
def codeA (n m : Nat) (len : Nat → Nat) : Int := if codeM n len = 0 then (if m = len 0 then 0 else 11) else codeM n len
theorem codeA_err (h : codeM n len ≠ 0) : codeA n m len = codeM n len := if_neg h
theorem codeA_ok (h : codeM n len = 0) (hm : m = len 0) : codeA n m len = 0 := by unfold codeA; rw [if_pos h, if_pos hm]
theorem codeA_sh (h : codeM n len = 0) (hm : m ≠ len 0) : codeA n m len = 11 := by unfold codeA; rw [if_pos h, if_neg hm]
theorem apply_all (h : MatI w w.heap.size A n len R) (hB : RowI w w.heap.size B m Rx) (hs : SmallM n len R) (hv : SmallR m Rx) :
    Calls Tryd.prog 34 #[.slice A n ca, .slice B m cb] w fun e w' => RetAe w.heap.size n (codeA n m len) (fun i => dotS (fun k => valR (R i k)) (fun k => valR (Rx k)) (len 0)) (errM (codeA n m len)) e w' ∧ Below w.heap.size w w' := by
  by_cases hc : codeM n len = 0
  · by_cases hm : m = len 0
    · obtain ⟨_, _, _, _, h5, h6⟩ := hs.acc hc
      rw [codeA_ok hc hm, errM_0]
      refine (apply_any (L := 3) h hB hc hm.symm (fun i k hi hk => h6 i k hi (by omega)) (fun i k hi hk => h.ok hi (by rw [h5 i hi]; omega)) hv.2 (fun k hk => hB.ra.ok hk) (by omega) (by omega)).mono ?_
      rintro e w1 ⟨⟨A', d', h1, h2⟩, hb⟩
      rw [hm] at h2
      exact ⟨⟨A', d', by rw [outN_0]; exact h1, by rw [outN_0]; exact h2⟩, hb⟩
    · rw [codeA_sh hc hm, errM_n (by omega)]
      refine (apply_shape h hc hm B cb).mono ?_
      rintro e w1 ⟨he, rfl⟩
      exact ⟨.err (by omega) he, Below.refl _ _⟩
  · rw [codeA_err hc, errM_n hc]
    refine (apply_err (Lib.hid (check_err h (by have := hs.le.1; omega) (fun i hi => by have := hs.le.2 i hi; omega) rfl hc)) _).mono ?_
    rintro e w1 ⟨he, rfl⟩
    exact ⟨.err hc he, Below.refl _ _⟩
theorem rapply_all (h : MatI w w.heap.size A n len R) (hB : RowI w w.heap.size B m Rx) (hs : SmallM n len R) (hv : SmallR m Rx) :
    Calls Tryd.prog 35 #[.slice A n ca, .slice B m cb] w fun e w' => RetAe w.heap.size n (codeA n m len) (fun i => dotS (fun k => valR (R i k)) (fun k => valR (Rx k)) (len 0)) (.int .i64 (codeA n m len)) e w' ∧ Below w.heap.size w w' := by
  by_cases hc : codeM n len = 0
  · by_cases hm : m = len 0
    · obtain ⟨_, _, _, _, h5, h6⟩ := hs.acc hc
      rw [codeA_ok hc hm]
      refine (rapply_any (L := 3) h hB hc hm.symm (fun i k hi hk => h6 i k hi (by omega)) (fun i k hi hk => h.ok hi (by rw [h5 i hi]; omega)) hv.2 (fun k hk => hB.ra.ok hk) (by omega) (by omega)).mono ?_
      rintro e w1 ⟨⟨A', d', h1, h2⟩, hb⟩
      rw [hm] at h2
      exact ⟨⟨A', d', by rw [outN_0]; exact h1, by rw [outN_0]; exact h2⟩, hb⟩
    · rw [codeA_sh hc hm]
      refine (rapply_shape h hc hm B cb).mono ?_
      rintro e w1 ⟨he, rfl⟩
      exact ⟨.err (by omega) he, Below.refl _ _⟩
  · rw [codeA_err hc]
    refine (rapply_err (Lib.hid (rcheck_any h (by have := hs.le.1; omega) (fun i hi => by have := hs.le.2 i hi; omega))) hc _).mono ?_
    rintro e w1 ⟨he, rfl⟩
    exact ⟨.err hc he, Below.refl _ _⟩
/-! Mul -/
theorem mul_err2 {k : Int} (h : MatI w w.heap.size A n len R) (hcode : codeM n len = 0) (K1 : Hid (Calls Tryd.prog 24 #[.slice B m cb] w fun e w' => e = .returned (.iface 42 (.int .i64 k)) ∧ w = w')) :
    Calls Tryd.prog 29 #[.slice A n ca, .slice B m cb] w fun e w' => e = .returned (.tuple #[.slice none 0 0, .iface 42 (.int .i64 k)]) ∧ w = w' := by
  obtain ⟨hn0, hl0, hn, hl, hall⟩ := codeM_zero hcode
  have K0 := Lib.hid (check_any (ca := ca) h (by omega) (fun i hi => by rw [hall i hi]; omega))
  rw [hcode, errM_0] at K0
  clear h hcode hall
  go_enter Tryd.func29, Tryd.ntmps29
  go_wp2_with (first | (go_at_call 24; (with_reducible refine (K0.out).mono ?_); rintro e _ ⟨rfl, rfl⟩) | (go_at_call 24; (with_reducible refine (K1.out).mono ?_); rintro e _ ⟨rfl, rfl⟩) | fail)
  go_ret2
  exact ⟨rfl, rfl⟩
theorem mul_shape (h : MatI w w.heap.size A n len R) (hcode : codeM n len = 0) (h' : MatI w w.heap.size B m len' R') (hcode' : codeM m len' = 0) (hm : m ≠ len 0) :
    Calls Tryd.prog 29 #[.slice A n ca, .slice B m cb] w fun e w' => e = .returned (.tuple #[.slice none 0 0, .iface 42 (.int .i64 11)]) ∧ w = w' := by
  obtain ⟨hn0, hl0, hn, hl, hall⟩ := codeM_zero hcode
  obtain ⟨hn0', hl0', hn', hl', hall'⟩ := codeM_zero hcode'
  have K0 := Lib.hid (check_any (ca := ca) h (by omega) (fun i hi => by rw [hall i hi]; omega))
  have K1 := Lib.hid (check_any (ca := cb) h' (by omega) (fun i hi => by rw [hall' i hi]; omega))
  rw [hcode, errM_0] at K0
  rw [hcode', errM_0] at K1
  obtain ⟨b, off, A0, c0, rfl, hc0, hrows⟩ := h.at0 hn0
  have e1 : ((len 0 : Int) == (m : Int)) = false := beq_eq_false_iff_ne.2 (by omega)
  have e2 : ((len 0 : Int) != (m : Int)) = true := by rw [bne_iff_ne]; omega
  clear h hcode h' hcode' hm hrows hall hall'
  generalize len 0 = l0 at *
  go_enter Tryd.func29, Tryd.ntmps29
  go_wp2_with (first | (go_at_call 24; (with_reducible refine (K0.out).mono ?_); rintro e _ ⟨rfl, rfl⟩) | (go_at_call 24; (with_reducible refine (K1.out).mono ?_); rintro e _ ⟨rfl, rfl⟩) | fail)
  go_ret2
  exact ⟨rfl, rfl⟩
theorem rmul_err (K : Hid (Calls Tryd.prog 19 #[.slice A n ca] w fun e w' => e = .returned (.int .i64 k) ∧ w = w')) (h0 : k ≠ 0) (B : Value) :
    Calls Tryd.prog 36 #[.slice A n ca, B] w fun e w' => e = .returned (.tuple #[.slice none 0 0, .int .i64 k]) ∧ w = w' := by
  have e1 : (k == 0) = false := by simp [h0]
  have e2 : (k != 0) = true := by simp [h0]
  clear h0
  go_enter Tryd.func36, Tryd.ntmps36
  go_wp2_with (first | (go_at_call 19; (with_reducible refine (K.out).mono ?_); rintro e _ ⟨rfl, rfl⟩) | fail)
  go_ret2
  exact ⟨rfl, rfl⟩
theorem rmul_err2 (h : MatI w w.heap.size A n len R) (hcode : codeM n len = 0) (K1 : Hid (Calls Tryd.prog 19 #[.slice B m cb] w fun e w' => e = .returned (.int .i64 k) ∧ w = w')) (h0 : k ≠ 0) :
    Calls Tryd.prog 36 #[.slice A n ca, .slice B m cb] w fun e w' => e = .returned (.tuple #[.slice none 0 0, .int .i64 k]) ∧ w = w' := by
  obtain ⟨hn0, hl0, hn, hl, hall⟩ := codeM_zero hcode
  have K0 := Lib.hid (rcheck_any (ca := ca) h (by omega) (fun i hi => by rw [hall i hi]; omega))
  rw [hcode] at K0
  have e1 : (k == 0) = false := by simp [h0]
  have e2 : (k != 0) = true := by simp [h0]
  clear h hcode hall h0
  go_enter Tryd.func36, Tryd.ntmps36
  go_wp2_with (first | (go_at_call 19; (with_reducible refine (K0.out).mono ?_); rintro e _ ⟨rfl, rfl⟩) | (go_at_call 19; (with_reducible refine (K1.out).mono ?_); rintro e _ ⟨rfl, rfl⟩) | fail)
  go_ret2
  exact ⟨rfl, rfl⟩
theorem rmul_shape (h : MatI w w.heap.size A n len R) (hcode : codeM n len = 0) (h' : MatI w w.heap.size B m len' R') (hcode' : codeM m len' = 0) (hm : m ≠ len 0) :
    Calls Tryd.prog 36 #[.slice A n ca, .slice B m cb] w fun e w' => e = .returned (.tuple #[.slice none 0 0, .int .i64 11]) ∧ w = w' := by
  obtain ⟨hn0, hl0, hn, hl, hall⟩ := codeM_zero hcode
  obtain ⟨hn0', hl0', hn', hl', hall'⟩ := codeM_zero hcode'
  have K0 := Lib.hid (rcheck_any (ca := ca) h (by omega) (fun i hi => by rw [hall i hi]; omega))
  have K1 := Lib.hid (rcheck_any (ca := cb) h' (by omega) (fun i hi => by rw [hall' i hi]; omega))
  rw [hcode] at K0
  rw [hcode'] at K1
  obtain ⟨b, off, A0, c0, rfl, hc0, hrows⟩ := h.at0 hn0
  have e1 : ((len 0 : Int) == (m : Int)) = false := beq_eq_false_iff_ne.2 (by omega)
  have e2 : ((len 0 : Int) != (m : Int)) = true := by rw [bne_iff_ne]; omega
  clear h hcode h' hcode' hm hrows hall hall'
  generalize len 0 = l0 at *
  go_enter Tryd.func36, Tryd.ntmps36
  go_wp2_with (first | (go_at_call 19; (with_reducible refine (K0.out).mono ?_); rintro e _ ⟨rfl, rfl⟩) | (go_at_call 19; (with_reducible refine (K1.out).mono ?_); rintro e _ ⟨rfl, rfl⟩) | fail)
  go_ret2
  exact ⟨rfl, rfl⟩
def codeB (n m : Nat) (len len' : Nat → Nat) : Int := if codeM n len = 0 then (if codeM m len' = 0 then (if m = len 0 then 0 else 11) else codeM m len') else codeM n len
theorem mul_all (h : MatI w w.heap.size A n len R) (h' : MatI w w.heap.size B m len' R') (hs : SmallM n len R) (hs' : SmallM m len' R') :
    Calls Tryd.prog 29 #[.slice A n ca, .slice B m cb] w fun e w' => RetMe w.heap.size n (len' 0) (codeB n m len len') (mulF (fun i k => valR (R i k)) (fun i k => valR (R' i k)) m) (errM (codeB n m len len')) e w' ∧ Below w.heap.size w w' := by
  unfold codeB
  by_cases hc : codeM n len = 0
  · rw [if_pos hc]
    by_cases hc' : codeM m len' = 0
    · rw [if_pos hc']
      by_cases hm : m = len 0
      · rw [if_pos hm, errM_0]
        obtain ⟨_, _, _, _, h5, h6⟩ := hs.acc hc
        obtain ⟨_, _, _, _, h5', h6'⟩ := hs'.acc hc'
        refine (mulM_any (L := 3) h h' hc hc' hm.symm rfl (fun i k hi hk => h6 i k hi (by omega)) (fun i k hi hk => h.ok hi (by rw [h5 i hi]; omega)) h6' (fun i k hi hk => h'.ok hi (by rw [h5' i hi]; exact hk)) (by omega) (by omega)).mono ?_
        rintro e w1 ⟨⟨o, co, h1, h2⟩, hb⟩
        exact ⟨⟨_, _, by rw [outN_0]; exact h1, by rw [outN_0]; exact h2.mo⟩, hb⟩
      · rw [if_neg hm, errM_n (by omega)]
        refine (mul_shape h hc h' hc' hm).mono ?_
        rintro e w1 ⟨he, rfl⟩
        exact ⟨.err (by omega) he, Below.refl _ _⟩
    · rw [if_neg hc', errM_n hc']
      refine (mul_err2 h hc (Lib.hid (check_err h' (by have := hs'.le.1; omega) (fun i hi => by have := hs'.le.2 i hi; omega) rfl hc'))).mono ?_
      rintro e w1 ⟨he, rfl⟩
      exact ⟨.err hc' he, Below.refl _ _⟩
  · rw [if_neg hc, errM_n hc]
    refine (mul_err (Lib.hid (check_err h (by have := hs.le.1; omega) (fun i hi => by have := hs.le.2 i hi; omega) rfl hc)) _).mono ?_
    rintro e w1 ⟨he, rfl⟩
    exact ⟨.err hc he, Below.refl _ _⟩
theorem rmul_all (h : MatI w w.heap.size A n len R) (h' : MatI w w.heap.size B m len' R') (hs : SmallM n len R) (hs' : SmallM m len' R') :
    Calls Tryd.prog 36 #[.slice A n ca, .slice B m cb] w fun e w' => RetMe w.heap.size n (len' 0) (codeB n m len len') (mulF (fun i k => valR (R i k)) (fun i k => valR (R' i k)) m) (.int .i64 (codeB n m len len')) e w' ∧ Below w.heap.size w w' := by
  unfold codeB
  by_cases hc : codeM n len = 0
  · rw [if_pos hc]
    by_cases hc' : codeM m len' = 0
    · rw [if_pos hc']
      by_cases hm : m = len 0
      · rw [if_pos hm]
        obtain ⟨_, _, _, _, h5, h6⟩ := hs.acc hc
        obtain ⟨_, _, _, _, h5', h6'⟩ := hs'.acc hc'
        refine (rmulM_any (L := 3) h h' hc hc' hm.symm rfl (fun i k hi hk => h6 i k hi (by omega)) (fun i k hi hk => h.ok hi (by rw [h5 i hi]; omega)) h6' (fun i k hi hk => h'.ok hi (by rw [h5' i hi]; exact hk)) (by omega) (by omega)).mono ?_
        rintro e w1 ⟨⟨A1, d1, h1, h2⟩, hb⟩
        exact ⟨⟨_, _, by rw [outN_0]; exact h1, by rw [outN_0]; exact h2⟩, hb⟩
      · rw [if_neg hm]
        refine (rmul_shape h hc h' hc' hm).mono ?_
        rintro e w1 ⟨he, rfl⟩
        exact ⟨.err (by omega) he, Below.refl _ _⟩
    · rw [if_neg hc']
      refine (rmul_err2 h hc (Lib.hid (rcheck_any h' (by have := hs'.le.1; omega) (fun i hi => by have := hs'.le.2 i hi; omega))) hc').mono ?_
      rintro e w1 ⟨he, rfl⟩
      exact ⟨.err hc' he, Below.refl _ _⟩
  · rw [if_neg hc]
    refine (rmul_err (Lib.hid (rcheck_any h (by have := hs.le.1; omega) (fun i hi => by have := hs.le.2 i hi; omega))) hc _).mono ?_
    rintro e w1 ⟨he, rfl⟩
    exact ⟨.err hc he, Below.refl _ _⟩
end
end Go.Proofs.YtnljncncnohncaaDoor
