/- Contracts of functions and lemmas, used by the proofs of the given statements. No condition beyond those that each lemma names. -/
import Derived.Test.YtedopalmfakeaaaPrV2
import Derived.Test.YtedopalmfakeaaaPrW10
import Derived.Test.YtedopalmfakeaaaJCubeCnt
namespace Go.Proofs.Ytedopalmfakeaaa
open Go.RowKit Go.Sort
set_option linter.unusedSimpArgs false
set_option linter.unusedVariables false
set_option maxRecDepth 20000
/-! ## law13's awake -/
theorem exF_ok : FrOk exF := codeF_ok (by decide +kernel)
theorem exF_sup : supF exF.fr = 7 := by decide +kernel
def exL : List Cn := [(1, 2), (5, 0), (6, 0)]
theorem sub7 {t : Nat} (h : ∀ i, t.testBit i = true → (7 : Nat).testBit i = true) : t < 8 := by
  refine Nat.lt_pow_two_of_testBit (n := 3) _ fun i hi => ?_
  cases hb : t.testBit i
  · rfl
  · have := h i hb
    have h2 : (7 : Nat).testBit i = false := Nat.testBit_lt_two_pow (Nat.lt_of_lt_of_le (show 7 < 2 ^ 3 by decide) (Nat.pow_le_pow_right (by omega) hi))
    rw [h2] at this; cases this
theorem sub7' {t : Nat} (h : t < 8) (i : Nat) (hi : t.testBit i = true) : (7 : Nat).testBit i = true := by
  have h3 : i < 3 := by
    rcases Nat.lt_or_ge i 3 with h1 | h1
    · exact h1
    · rw [Nat.testBit_lt_two_pow (Nat.lt_of_lt_of_le (show t < 2 ^ 3 from h) (Nat.pow_le_pow_right (show 0 < 2 by omega) h1))] at hi; cases hi
  match i, h3 with
  | 0, _ => rfl
  | 1, _ => rfl
  | 2, _ => rfl
theorem ex_primes {s : List Cn} (h : PrmS 7 exF.fr.val s) : s = exL := by
  have hk : ∀ i, (7 : Nat).testBit i = true → i < 3 := fun i hi => by
    rcases Nat.lt_or_ge i 3 with h1 | h1
    · exact h1
    · rw [Nat.testBit_lt_two_pow (Nat.lt_of_lt_of_le (show 7 < 2 ^ 3 by decide) (Nat.pow_le_pow_right (by omega) h1))] at hi; cases hi
  obtain ⟨hn, hm⟩ := allN_spec (S := 7) (k := 3) (V := exF.fr.val) (f := 4) (by omega) hk (by decide +kernel)
  have h2 : PrmS 7 exF.fr.val (srtD ltN (rndN 4 (mintL 7 3 exF.fr.val))) := ⟨srtD_sorted ltN_o _, fun x => by rw [srtD_mem ltN_o, hm]⟩
  rw [h.uniq h2]
  decide +kernel
theorem covB_7 {l : List Cn} {c : Cn} (hc : okN c ∧ inS 7 c) (hl : ∀ d, d ∈ l → inS 7 d) : covB l c = (List.range 8).all fun t => !hoN c t || anyN l t := by
  rw [Bool.eq_iff_iff, cov_S (S := 7) (by omega) hc.1 hc.2 hl, List.all_eq_true]
  constructor
  · intro h t ht
    have := h t (sub7' (List.mem_range.1 ht))
    cases hh : hoN c t
    · rfl
    · rw [this hh]; rfl
  · intro h t ht hh
    have := h t (List.mem_range.2 (sub7 ht))
    rw [hh] at this
    simpa using this
theorem in7 {c : Cn} (h1 : c.1 < 8) (h2 : c.2 < 8) : inS 7 c := fun i hi => by
  rcases hi with hi | hi
  · exact sub7' h1 i hi
  · exact sub7' h2 i hi
theorem irrN_succ (i : Nat) (l : List Cn) : irrN (i + 1) l = irrN i (if covB (l.eraseIdx i) (atN l i) then l.eraseIdx i else l) := by rw [irrN]
theorem ex_irr : irrN 3 exL = [(1, 2), (6, 0)] := by
  have i1 : inS 7 (1, 2) := in7 (by decide) (by decide)
  have i2 : inS 7 (5, 0) := in7 (by decide) (by decide)
  have i3 : inS 7 (6, 0) := in7 (by decide) (by decide)
  have o1 : okN (1, 2) := by unfold okN; decide
  have o2 : okN (5, 0) := by unfold okN; decide
  have o3 : okN (6, 0) := by unfold okN; decide
  have c1 : covB [(1, 2), (5, 0)] (6, 0) = false := by
    rw [covB_7 ⟨o3, i3⟩ (by intro d hd; simp at hd; rcases hd with rfl | rfl <;> assumption)]
    decide +kernel
  have c2 : covB [(1, 2), (6, 0)] (5, 0) = true := by
    rw [covB_7 ⟨o2, i2⟩ (by intro d hd; simp at hd; rcases hd with rfl | rfl <;> assumption)]
    decide +kernel
  have c3 : covB [(6, 0)] (1, 2) = false := by
    rw [covB_7 ⟨o1, i1⟩ (by intro d hd; simp at hd; rcases hd with rfl <;> assumption)]
    decide +kernel
  have e1 : irrN 3 exL = irrN 2 (if covB (exL.eraseIdx 2) (atN exL 2) then exL.eraseIdx 2 else exL) := irrN_succ 2 exL
  have f1 : exL.eraseIdx 2 = [(1, 2), (5, 0)] := by decide
  have f2 : atN exL 2 = (6, 0) := by decide
  rw [e1, f1, f2, c1, if_neg (by decide)]
  have e2 : irrN 2 exL = irrN 1 (if covB (exL.eraseIdx 1) (atN exL 1) then exL.eraseIdx 1 else exL) := irrN_succ 1 exL
  have f3 : exL.eraseIdx 1 = [(1, 2), (6, 0)] := by decide
  have f4 : atN exL 1 = (5, 0) := by decide
  rw [e2, f3, f4, c2, if_pos rfl]
  have e3 : irrN 1 [(1, 2), (6, 0)] = irrN 0 (if covB (([(1, 2), (6, 0)] : List Cn).eraseIdx 0) (atN [(1, 2), (6, 0)] 0) then ([(1, 2), (6, 0)] : List Cn).eraseIdx 0 else [(1, 2), (6, 0)]) := irrN_succ 0 [(1, 2), (6, 0)]
  have f5 : ([(1, 2), (6, 0)] : List Cn).eraseIdx 0 = [(6, 0)] := by decide
  have f6 : atN [(1, 2), (6, 0)] 0 = (1, 2) := by decide
  rw [e3, f5, f6, c3, if_neg (by decide), irrN]
theorem ex_7 : popc (supF exF.fr) ≤ 12 := by
  rw [exF_sup]
  decide +kernel
section
variable {w : World} {A : Option Addr} {c : Nat}
theorem exAll_any (h : FrI w A exF) : Calls Try.prog 53 #[fv 3 A 4 c 6] w fun e w' => (∃ A c, e = .returned (.tuple #[.slice A 3 c, .nilIface]) ∧ OwC w' w.heap.size A c (exL.map zc)) ∧ Below w.heap.size w w' := by
  have K := All_ok (v := 3) (c := c) h exF_ok rfl ex_7
  rw [exF_sup, show ((3 : Nat) : Int) = 3 from rfl, show exF.nn = 4 from rfl, show exF.top = 6 from rfl] at K
  refine K.mono ?_
  clear K
  rintro e w' ⟨⟨s, hs, ⟨h1, _⟩ | ⟨_, A2, c2, rfl, own⟩⟩, hb⟩
  · rw [ex_primes hs] at h1
    exact absurd h1 (by decide)
  · have := ex_primes hs
    subst this
    exact ⟨⟨A2, c2, rfl, own⟩, hb⟩
theorem exIrr_any (h : FrI w A exF) : Calls Try.prog 54 #[fv 3 A 4 c 6] w fun e w' => (∃ A c, e = .returned (.tuple #[.slice A 2 c, .nilIface]) ∧ OwC w' w.heap.size A c (([(1, 2), (6, 0)] : List Cn).map zc)) ∧ Below w.heap.size w w' := by
  have K := Irredundant_ok (v := 3) (c := c) h exF_ok rfl ex_7
  rw [exF_sup, show ((3 : Nat) : Int) = 3 from rfl, show exF.nn = 4 from rfl, show exF.top = 6 from rfl] at K
  refine K.mono ?_
  clear K
  rintro e w' ⟨⟨s, hs, ⟨h1, _⟩ | ⟨_, A2, c2, rfl, own⟩⟩, hb⟩
  · rw [ex_primes hs] at h1
    exact absurd h1 (by decide)
  · have := ex_primes hs
    subst this
    have e : irrN exL.length exL = [(1, 2), (6, 0)] := ex_irr
    rw [e] at own ⊢
    exact ⟨⟨A2, c2, rfl, own⟩, hb⟩
end
set_option maxHeartbeats 8000000 in
theorem awake13_any (w : World) : Calls Try.prog 51 #[] w fun e w' => e = .returned (.bool true) ∧ Below w.heap.size w w' := by
  go_enter Try.func51, Try.ntmps51
  go_wp2_with fail
  refine (example_any _).mono ?_
  rintro e w1 ⟨⟨A1, c1, rfl, h1⟩, hb1⟩
  go_wp2_with fail
  refine (exAll_any h1).mono ?_
  rintro e w2 ⟨⟨A2, c2, rfl, own2⟩, hb2⟩
  clear h1
  go_wp2_with fail
  refine (example_any _).mono ?_
  rintro e w3 ⟨⟨A3, c3, rfl, h3⟩, hb3⟩
  go_wp2_with fail
  refine (exIrr_any h3).mono ?_
  rintro e w4 ⟨⟨A4, c4, rfl, own4⟩, hb4⟩
  clear h3
  go_wp2_with fail
  have r1 : RdC (w4.alloc (.cells #[.int .i64 1, .int .i64 2, .int .i64 5, .int .i64 0, .int .i64 6, .int .i64 0] 23)) (w4.alloc (.cells #[.int .i64 1, .int .i64 2, .int .i64 5, .int .i64 0, .int .i64 6, .int .i64 0] 23)).heap.size (some ⟨w4.heap.size, 0, none⟩) (exL.map zc) := rds_lit rfl rfl rfl (Below.refl _ _)
  have r2 := (own2.below ((hb3.trans (hb4.mono hb3.size)).trans ((Below.refl w4.heap.size w4).alloc (Nat.le_refl _) (.cells #[.int .i64 1, .int .i64 2, .int .i64 5, .int .i64 0, .int .i64 6, .int .i64 0] 23) |>.mono (by have := hb3.size; have := hb4.size; omega)))).rd
  refine (cubes_at A2 _ _ _ 3 3 c2 3 _ rfl rfl (by omega) (by omega) r2 r1).mono ?_
  rintro e w5 ⟨rfl, hb5⟩
  have hd : (decide (exL.map zc = exL.map zc)) = true := by simp
  rw [hd]
  have hb5z := hb5.size
  simp only [World.size_alloc] at hb5z
  have own5 := own4.below (show Below w4.heap.size w4 w5 from (by have z0 := Below.size hb5; (try simp only [World.size_alloc, World.size_setCell, World.size_drew, size_drewN'] at z0 ⊢; skip); repeat' (first | (with_reducible exact Below.refl _ _) | (with_reducible assumption) | (with_reducible refine Below.alloc ?_ ?_ _) | (with_reducible refine Below.drew ?_) | (with_reducible refine below_drewN ?_ _) | (with_reducible refine Below.setCell ?_ ?_ _) | (with_reducible refine Below.trans ?_ (Below.mono (by with_reducible assumption) ?_)) | omega | (simp only [World.size_alloc, World.size_setCell, World.size_drew, size_drewN']; omega) | go_size)))
  clear r1 r2 own2 own4
  go_wp2_with fail
  have r3 : RdC (w5.alloc (.cells #[.int .i64 1, .int .i64 2, .int .i64 6, .int .i64 0] 23)) (w5.alloc (.cells #[.int .i64 1, .int .i64 2, .int .i64 6, .int .i64 0] 23)).heap.size (some ⟨w5.heap.size, 0, none⟩) (([(1, 2), (6, 0)] : List Cn).map zc) := rds_lit rfl rfl rfl (Below.refl _ _)
  have r4 := (own5.alloc (.cells #[.int .i64 1, .int .i64 2, .int .i64 6, .int .i64 0] 23)).rd
  refine (cubes_at A4 _ _ _ 2 2 c4 2 _ rfl rfl (by omega) (by omega) r4 r3).mono ?_
  rintro e w6 ⟨rfl, hb6⟩
  have hd2 : (decide ((([(1, 2), (6, 0)] : List Cn).map zc) = ([(1, 2), (6, 0)] : List Cn).map zc)) = true := by simp
  rw [hd2]
  clear r3 r4 own5
  go_wp2_with fail
  go_returns
  exact ⟨rfl, (by have z0 := Below.size hb1; have z1 := Below.size hb2; have z2 := Below.size hb3; have z3 := Below.size hb4; have z4 := Below.size hb5; have z5 := Below.size hb6; (try simp only [World.size_alloc, World.size_setCell, World.size_drew, size_drewN'] at z0 z1 z2 z3 z4 z5 ⊢; skip); repeat' (first | (with_reducible exact Below.refl _ _) | (with_reducible assumption) | (with_reducible refine Below.alloc ?_ ?_ _) | (with_reducible refine Below.drew ?_) | (with_reducible refine below_drewN ?_ _) | (with_reducible refine Below.setCell ?_ ?_ _) | (with_reducible refine Below.trans ?_ (Below.mono (by with_reducible assumption) ?_)) | omega | (simp only [World.size_alloc, World.size_setCell, World.size_drew, size_drewN']; omega) | go_size))⟩
end Go.Proofs.Ytedopalmfakeaaa
