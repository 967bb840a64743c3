/- Contracts and lemmas for the given statements. Conditions: those alone that each names. -/
import Derived.Test.YtoiopnmphbnjaaaGreatDoorJRatG
set_option maxHeartbeats 2000000
namespace Go.Proofs.YtoiopnmphbnjaaaGreatDoor
open Go.RowKit
set_option linter.unusedSimpArgs false
set_option linter.unusedVariables false
set_option maxRecDepth 20000
attribute [local irreducible] nv wp win plainB validR
/-! ## the reference's fractions: Add -/
theorem rcmpNN {A B : Option Addr} {n c n' c' x y : Nat} {w : World} (h : RdN w A n c x) (h' : RdN w B n' c' y) (hn : n ≤ 274877906900) (hn' : n' ≤ 274877906900) :
   Calls Tryz.prog 98 #[.slice A n c, .slice B n' c'] w fun e w' => e = .returned (.int .i64 (cmpN x y)) ∧ w = w' := by
 have := rcmp_any A B (dig x) (dig y) n c n' c' w h.1.symm h'.1.symm (by omega) (by omega) (dig_W32 x) (dig_W32 y) h.2.2 h'.2.2
 rwa [nv_dig, nv_dig] at this
theorem rsubN {A B : Option Addr} {n c n' c' x y : Nat} {w : World} (h : RdN w A n c x) (h' : RdN w B n' c' y) (hn : n ≤ 274877906900) (hn' : n' ≤ 274877906900) (hle : y ≤ x) :
   Calls Tryz.prog 99 #[.slice A n c, .slice B n' c'] w fun e w' => (∃ A' m d, e = .returned (.tuple #[.slice A' m d, .int .i64 0]) ∧ OwN w' w.heap.size A' m d (x - y)) ∧ Below w.heap.size w w' := by
 have := rsub_any A B (dig x) (dig y) n c n' c' w h.1.symm h'.1.symm (by omega) (by omega) (dig_W32 x) (dig_W32 y) h.2.2 h'.2.2 (by rw [nv_dig, nv_dig]; exact hle)
 rw [nv_dig, nv_dig] at this
 refine this.mono ?_
 rintro e w' ⟨A', c', rfl, h1, h2⟩
 exact ⟨⟨_, _, _, rfl, OwN.mk' h1⟩, h2⟩
theorem cmpN_nlt {a b : Nat} (h : b ≤ a) : decide (cmpN a b < 0) = false := by unfold cmpN; simp; split <;> (try split) <;> omega
theorem raddQ {w : World} {L : Nat} {v u : Value} {q r : Rat} (h : RdQ w L v q) (h' : RdQ w L u r) (hL : 1 ≤ L) (hL2 : L ≤ 100000000000) :
   Calls Tryz.prog 53 #[v, u] w fun e w' => RetQ w.heap.size (q + r) e w' ∧ Below w.heap.size w w' := by
 have K := Lib.hid (fun W (hb : Below w.heap.size w W) => rparts_any (h.below hb) hL hL2)
 have K' := Lib.hid (fun W (hb : Below w.heap.size w W) => rparts_any (h'.below hb) hL hL2)
 obtain ⟨s0, A0, n0, c0, B0, m0, d0, rfl⟩ := h.form
 obtain ⟨s9, A9, n9, c9, B9, m9, d9, rfl⟩ := h'.form
 clear h h'
 go_enter Tryz.func53, Tryz.ntmps53
 (go_wp2_with fail; (with_reducible refine (K.out _ (by (skip); repeat' (first | (with_reducible first | exact BlR _ _ | assumption | refine BlA ?_ ?_ _ | refine BlD ?_ | refine BlN ?_ _ | refine BlS ?_ ?_ _ | refine BlT ?_ (BlM (by assumption) ?_)) | omega | (simp only [ZZ]; omega) | go_size))).mono ?_); rintro e w1 ⟨⟨s, A1, n1, c1, x, B1, m1, d1, y, rfl, rx, ry, hy, rfl, hn1, hm1, hx9, hy9⟩, hb1⟩; have hb1z := Below.size hb1; (try simp only [ZZ] at hb1z); obtain ⟨hb1c0, hb1f0⟩ := bbo hb1 (w.heap.size) (by first | omega | (simp only [ZZ]; omega)); obtain ⟨hb1c1, hb1f1⟩ := bbo hb1 (w.heap.size + 1) (by first | omega | (simp only [ZZ]; omega)); obtain ⟨hb1c2, hb1f2⟩ := bbo hb1 (w.heap.size + 2) (by first | omega | (simp only [ZZ]; omega)))
 (go_wp2_with fail; (with_reducible refine (K'.out _ (by have z0 := Below.size hb1; (try simp only [ZZ] at z0 ⊢; skip); repeat' (first | (with_reducible first | exact BlR _ _ | assumption | refine BlA ?_ ?_ _ | refine BlD ?_ | refine BlN ?_ _ | refine BlS ?_ ?_ _ | refine BlT ?_ (BlM (by assumption) ?_)) | omega | (simp only [ZZ]; omega) | go_size))).mono ?_); rintro e w2 ⟨⟨s', A2, n2, c2, x', B2, m2, d2, y', rfl, rx', ry', hy', rfl, hn2, hm2, hx9', hy9'⟩, hb2⟩; have hb2z := Below.size hb2; (try simp only [ZZ] at hb2z); obtain ⟨hb2c0, hb2f0⟩ := bbo hb2 (w.heap.size) (by first | omega | (simp only [ZZ]; omega)); obtain ⟨hb2c1, hb2f1⟩ := bbo hb2 (w.heap.size + 1) (by first | omega | (simp only [ZZ]; omega)); obtain ⟨hb2c2, hb2f2⟩ := bbo hb2 (w.heap.size + 2) (by first | omega | (simp only [ZZ]; omega)))
 clear K K'
 (go_wp2_with fail; (with_reducible refine (rmulN (rx.below hb2) ry' (by omega) (by omega)).mono ?_); rintro e w3 ⟨⟨A3, n3, c3, rfl, own3⟩, hb3⟩; have hb3z := Below.size hb3; (try simp only [ZZ] at hb3z); obtain ⟨hb3c0, hb3f0⟩ := bbo hb3 (w.heap.size) (by first | omega | (simp only [ZZ]; omega)); obtain ⟨hb3c1, hb3f1⟩ := bbo hb3 (w.heap.size + 1) (by first | omega | (simp only [ZZ]; omega)); obtain ⟨hb3c2, hb3f2⟩ := bbo hb3 (w.heap.size + 2) (by first | omega | (simp only [ZZ]; omega)))
 (go_wp2_with fail; (with_reducible refine (rmulN (rx'.below hb3) (ry.below (by have z0 := Below.size hb2; have z1 := Below.size hb3; (try simp only [ZZ] at z0 z1 ⊢; skip); repeat' (first | (with_reducible first | exact BlR _ _ | assumption | refine BlA ?_ ?_ _ | refine BlD ?_ | refine BlN ?_ _ | refine BlS ?_ ?_ _ | refine BlT ?_ (BlM (by assumption) ?_)) | omega | (simp only [ZZ]; omega) | go_size))) (by omega) (by omega)).mono ?_); rintro e w4 ⟨⟨A4, n4, c4, rfl, own4⟩, hb4⟩; have hb4z := Below.size hb4; (try simp only [ZZ] at hb4z); obtain ⟨hb4c0, hb4f0⟩ := bbo hb4 (w.heap.size) (by first | omega | (simp only [ZZ]; omega)); obtain ⟨hb4c1, hb4f1⟩ := bbo hb4 (w.heap.size + 1) (by first | omega | (simp only [ZZ]; omega)); obtain ⟨hb4c2, hb4f2⟩ := bbo hb4 (w.heap.size + 2) (by first | omega | (simp only [ZZ]; omega)))
 (go_wp2_with fail; (with_reducible refine (rmulN (ry.below (by have z0 := Below.size hb2; have z1 := Below.size hb3; have z2 := Below.size hb4; (try simp only [ZZ] at z0 z1 z2 ⊢; skip); repeat' (first | (with_reducible first | exact BlR _ _ | assumption | refine BlA ?_ ?_ _ | refine BlD ?_ | refine BlN ?_ _ | refine BlS ?_ ?_ _ | refine BlT ?_ (BlM (by assumption) ?_)) | omega | (simp only [ZZ]; omega) | go_size))) (ry'.below (by have z0 := Below.size hb3; have z1 := Below.size hb4; (try simp only [ZZ] at z0 z1 ⊢; skip); repeat' (first | (with_reducible first | exact BlR _ _ | assumption | refine BlA ?_ ?_ _ | refine BlD ?_ | refine BlN ?_ _ | refine BlS ?_ ?_ _ | refine BlT ?_ (BlM (by assumption) ?_)) | omega | (simp only [ZZ]; omega) | go_size))) (by omega) (by omega)).mono ?_); rintro e w5 ⟨⟨A5, n5, c5, rfl, own5⟩, hb5⟩; have hb5z := Below.size hb5; (try simp only [ZZ] at hb5z); obtain ⟨hb5c0, hb5f0⟩ := bbo hb5 (w.heap.size) (by first | omega | (simp only [ZZ]; omega)); obtain ⟨hb5c1, hb5f1⟩ := bbo hb5 (w.heap.size + 1) (by first | omega | (simp only [ZZ]; omega)); obtain ⟨hb5c2, hb5f2⟩ := bbo hb5 (w.heap.size + 2) (by first | omega | (simp only [ZZ]; omega)))
 have l3 := RetP.len own3 hx9 hy9'
 have l4 := RetP.len own4 hx9' hy9
 have l5 := RetP.len own5 hy9 hy9'
 have hden := Nat.mul_ne_zero hy hy'
 have HY := Lib.hid hy
 have HY' := Lib.hid hy'
 have r3 := own3.rd.below (show Below _ w3 w5 from (by have z0 := Below.size hb4; have z1 := Below.size hb5; (try simp only [ZZ] at z0 z1 ⊢; skip); repeat' (first | (with_reducible first | exact BlR _ _ | assumption | refine BlA ?_ ?_ _ | refine BlD ?_ | refine BlN ?_ _ | refine BlS ?_ ?_ _ | refine BlT ?_ (BlM (by assumption) ?_)) | omega | (simp only [ZZ]; omega) | go_size)))
 have r4 := own4.rd.below hb5
 have r5 := own5.rd
 by_cases hs : s = s'
 · subst hs
   (go_wp2_with fail; (with_reducible refine (raddN r3 r4 (by omega) (by omega)).mono ?_); rintro e w6 ⟨⟨A6, n6, c6, rfl, own6⟩, hb6⟩; have hb6z := Below.size hb6; (try simp only [ZZ] at hb6z); obtain ⟨hb6c0, hb6f0⟩ := bbo hb6 (w.heap.size) (by first | omega | (simp only [ZZ]; omega)); obtain ⟨hb6c1, hb6f1⟩ := bbo hb6 (w.heap.size + 1) (by first | omega | (simp only [ZZ]; omega)); obtain ⟨hb6c2, hb6f2⟩ := bbo hb6 (w.heap.size + 2) (by first | omega | (simp only [ZZ]; omega)))
   have l6 : n6 ≤ 274877906900 := by
     rw [own6.1]
     have e := dig_length_le (k := L + L + 1) (n := x * y' + x' * y) (by
       have := wp_mul_lt hx9 hy9'
       have := wp_mul_lt hx9' hy9
       have := wp_succ (L + L)
       omega)
     omega
   (go_wp2_with fail; (with_reducible refine (from_any s own6.rd.g (r5.below hb6).g (by omega) (by omega) hden).mono ?_); rintro e w7 ⟨⟨v, rfl, own⟩, hb7⟩; have hb7z := Below.size hb7; (try simp only [ZZ] at hb7z); obtain ⟨hb7c0, hb7f0⟩ := bbo hb7 (w.heap.size) (by first | omega | (simp only [ZZ]; omega)); obtain ⟨hb7c1, hb7f1⟩ := bbo hb7 (w.heap.size + 1) (by first | omega | (simp only [ZZ]; omega)); obtain ⟨hb7c2, hb7f2⟩ := bbo hb7 (w.heap.size + 2) (by first | omega | (simp only [ZZ]; omega)))
   obtain ⟨s2, A2, n2, c2, B2, m2, d2, rfl⟩ := own.form
   (have olc := fun o i => below_at ((Below.refl w7.heap.size w7).alloc (Nat.le_refl _) o) (w.heap.size + 1 + 1) i (by omega)); (have olf := fun o i => below_fr ((Below.refl w7.heap.size w7).alloc (Nat.le_refl _) o) (w.heap.size + 1 + 1) i (by omega))
   go_wp2
   refine bodyPost_ret (v := rv s2 A2 n2 c2 B2 m2 d2) (by simp [results, Tryz.results53, go_sem, olc, hb7c2, hb6c2, hb5c2, hb4c2, hb3c2, hb2c2, hb1c2]) rfl ?_
   rw [sq_add_same _ _ _ _ _ HY.out HY'.out]
   exact ⟨⟨_, rfl, (own.alloc _).set3 (by omega) (by omega) _ _ _⟩, (by have z0 := Below.size hb1; have z1 := Below.size hb2; have z2 := Below.size hb3; have z3 := Below.size hb4; have z4 := Below.size hb5; have z5 := Below.size hb6; have z6 := Below.size hb7; (try simp only [ZZ] at z0 z1 z2 z3 z4 z5 z6 ⊢; skip); repeat' (first | (with_reducible first | exact BlR _ _ | assumption | refine BlA ?_ ?_ _ | refine BlD ?_ | refine BlN ?_ _ | refine BlS ?_ ?_ _ | refine BlT ?_ (BlM (by assumption) ?_)) | omega | (simp only [ZZ]; omega) | go_size))⟩
 · have hs1 : (s == s') = false := by simpa using hs
   have HS := Lib.hid hs
   clear hs
   go_wp2_with fail
   (with_reducible refine (rcmpNN r3 r4 (by omega) (by omega)).mono ?_)
   rintro e _ ⟨rfl, rfl⟩
   by_cases hle : x' * y ≤ x * y'
   · have hc := cmpN_nlt hle
     generalize cmpN (x * y') (x' * y) = q at *
     (go_wp2_with fail; (with_reducible refine (rsubN r3 r4 (by omega) (by omega) hle).mono ?_); rintro e w7 ⟨⟨A6, n6, c6, rfl, own6⟩, hb7⟩; have hb7z := Below.size hb7; (try simp only [ZZ] at hb7z); obtain ⟨hb7c0, hb7f0⟩ := bbo hb7 (w.heap.size) (by first | omega | (simp only [ZZ]; omega)); obtain ⟨hb7c1, hb7f1⟩ := bbo hb7 (w.heap.size + 1) (by first | omega | (simp only [ZZ]; omega)); obtain ⟨hb7c2, hb7f2⟩ := bbo hb7 (w.heap.size + 2) (by first | omega | (simp only [ZZ]; omega)))
     have l6 : n6 ≤ 274877906900 := by
       rw [own6.1]
       have e := dig_length_le (k := L + L) (n := x * y' - x' * y) (by
         have := wp_mul_lt hx9 hy9'
         omega)
       omega
     (go_wp2_with fail; (with_reducible refine (from_any s own6.rd.g (r5.below hb7).g (by omega) (by omega) hden).mono ?_); rintro e w8 ⟨⟨v, rfl, own⟩, hb8⟩; have hb8z := Below.size hb8; (try simp only [ZZ] at hb8z); obtain ⟨hb8c0, hb8f0⟩ := bbo hb8 (w.heap.size) (by first | omega | (simp only [ZZ]; omega)); obtain ⟨hb8c1, hb8f1⟩ := bbo hb8 (w.heap.size + 1) (by first | omega | (simp only [ZZ]; omega)); obtain ⟨hb8c2, hb8f2⟩ := bbo hb8 (w.heap.size + 2) (by first | omega | (simp only [ZZ]; omega)))
     obtain ⟨s2, A2, n2, c2, B2, m2, d2, rfl⟩ := own.form
     (have olc := fun o i => below_at ((Below.refl w8.heap.size w8).alloc (Nat.le_refl _) o) (w.heap.size + 1 + 1) i (by omega)); (have olf := fun o i => below_fr ((Below.refl w8.heap.size w8).alloc (Nat.le_refl _) o) (w.heap.size + 1 + 1) i (by omega))
     go_wp2
     refine bodyPost_ret (v := rv s2 A2 n2 c2 B2 m2 d2) (by simp [results, Tryz.results53, go_sem, olc, hb8c2, hb7c2, hb5c2, hb4c2, hb3c2, hb2c2, hb1c2]) rfl ?_
     rw [sq_add_ne _ _ _ _ _ _ HY.out HY'.out HS.out hle]
     exact ⟨⟨_, rfl, (own.alloc _).set3 (by omega) (by omega) _ _ _⟩, (by have z0 := Below.size hb1; have z1 := Below.size hb2; have z2 := Below.size hb3; have z3 := Below.size hb4; have z4 := Below.size hb5; have z5 := Below.size hb7; have z6 := Below.size hb8; (try simp only [ZZ] at z0 z1 z2 z3 z4 z5 z6 ⊢; skip); repeat' (first | (with_reducible first | exact BlR _ _ | assumption | refine BlA ?_ ?_ _ | refine BlD ?_ | refine BlN ?_ _ | refine BlS ?_ ?_ _ | refine BlT ?_ (BlM (by assumption) ?_)) | omega | (simp only [ZZ]; omega) | go_size))⟩
   · have hc := cmpN_nge hle
     rw [hc]
     have hle2 : x * y' ≤ x' * y := by omega
     clear hle hc
     (go_wp2_with fail; (with_reducible refine (rsubN r4 r3 (by omega) (by omega) hle2).mono ?_); rintro e w7 ⟨⟨A6, n6, c6, rfl, own6⟩, hb7⟩; have hb7z := Below.size hb7; (try simp only [ZZ] at hb7z); obtain ⟨hb7c0, hb7f0⟩ := bbo hb7 (w.heap.size) (by first | omega | (simp only [ZZ]; omega)); obtain ⟨hb7c1, hb7f1⟩ := bbo hb7 (w.heap.size + 1) (by first | omega | (simp only [ZZ]; omega)); obtain ⟨hb7c2, hb7f2⟩ := bbo hb7 (w.heap.size + 2) (by first | omega | (simp only [ZZ]; omega)))
     have l6 : n6 ≤ 274877906900 := by
       rw [own6.1]
       have e := dig_length_le (k := L + L) (n := x' * y - x * y') (by
         have := wp_mul_lt hx9' hy9
         omega)
       omega
     (go_wp2_with fail; (with_reducible refine (from_any s' own6.rd.g (r5.below hb7).g (by omega) (by omega) hden).mono ?_); rintro e w8 ⟨⟨v, rfl, own⟩, hb8⟩; have hb8z := Below.size hb8; (try simp only [ZZ] at hb8z); obtain ⟨hb8c0, hb8f0⟩ := bbo hb8 (w.heap.size) (by first | omega | (simp only [ZZ]; omega)); obtain ⟨hb8c1, hb8f1⟩ := bbo hb8 (w.heap.size + 1) (by first | omega | (simp only [ZZ]; omega)); obtain ⟨hb8c2, hb8f2⟩ := bbo hb8 (w.heap.size + 2) (by first | omega | (simp only [ZZ]; omega)))
     obtain ⟨s2, A2, n2, c2, B2, m2, d2, rfl⟩ := own.form
     (have olc := fun o i => below_at ((Below.refl w8.heap.size w8).alloc (Nat.le_refl _) o) (w.heap.size + 1 + 1) i (by omega)); (have olf := fun o i => below_fr ((Below.refl w8.heap.size w8).alloc (Nat.le_refl _) o) (w.heap.size + 1 + 1) i (by omega))
     go_wp2
     refine bodyPost_ret (v := rv s2 A2 n2 c2 B2 m2 d2) (by simp [results, Tryz.results53, go_sem, olc, hb8c2, hb7c2, hb5c2, hb4c2, hb3c2, hb2c2, hb1c2]) rfl ?_
     rw [Rat.add_comm, sq_add_ne _ _ _ _ _ _ HY'.out HY.out (Ne.symm HS.out) hle2, Nat.mul_comm y']
     exact ⟨⟨_, rfl, (own.alloc _).set3 (by omega) (by omega) _ _ _⟩, (by have z0 := Below.size hb1; have z1 := Below.size hb2; have z2 := Below.size hb3; have z3 := Below.size hb4; have z4 := Below.size hb5; have z5 := Below.size hb7; have z6 := Below.size hb8; (try simp only [ZZ] at z0 z1 z2 z3 z4 z5 z6 ⊢; skip); repeat' (first | (with_reducible first | exact BlR _ _ | assumption | refine BlA ?_ ?_ _ | refine BlD ?_ | refine BlN ?_ _ | refine BlS ?_ ?_ _ | refine BlT ?_ (BlM (by assumption) ?_)) | omega | (simp only [ZZ]; omega) | go_size))⟩
end Go.Proofs.YtoiopnmphbnjaaaGreatDoor
namespace Go.Proofs.YtoiopnmphbnjaaaGreatDoor
open Go.RowKit
set_option linter.unusedSimpArgs false
set_option linter.unusedVariables false
set_option maxRecDepth 20000
attribute [local irreducible] nv wp win plainB validR
/-! ## Sub, Cmp, of the program and of the reference -/
theorem rsubQ {w : World} {L : Nat} {v u : Value} {q r : Rat} (h : RdQ w L v q) (h' : RdQ w L u r) (hL : 1 ≤ L) (hL2 : L ≤ 100000000000) :
   Calls Tryz.prog 119 #[v, u] w fun e w' => RetQ w.heap.size (q - r) e w' ∧ Below w.heap.size w w' := by
 have K1 := Lib.hid (fun W (hb : Below w.heap.size w W) => rneg_any (h'.below hb) hL hL2)
 have K2 := Lib.hid (fun W base v1 (hb : Below w.heap.size w W) (hv : OwQ W base v1 (-r)) => raddQ (h.below hb) (hv.rq (h'.sz hL).neg) hL hL2)
 obtain ⟨s0, A0, n0, c0, B0, m0, d0, rfl⟩ := h.form
 obtain ⟨s9, A9, n9, c9, B9, m9, d9, rfl⟩ := h'.form
 clear h h'
 go_enter Tryz.func119, Tryz.ntmps119
 go_wp2
 have ne1 : ¬ (w.heap.size = w.heap.size + 1 + 1) := by omega
 have ne2 : ¬ (w.heap.size + 1 + 1 = w.heap.size) := by omega
 go_region_held3 (fun W => W.cell? ⟨w.heap.size, 0, none⟩ = some (.bool s0) ∧ W.cell? ⟨w.heap.size, 1, none⟩ = some (.slice A0 n0 c0) ∧ W.cell? ⟨w.heap.size, 2, none⟩ = some (.slice B0 m0 d0) ∧ W.cell? ⟨w.heap.size + 1, 0, none⟩ = some (.bool s9) ∧ W.cell? ⟨w.heap.size + 1, 1, none⟩ = some (.slice A9 n9 c9) ∧ W.cell? ⟨w.heap.size + 1, 2, none⟩ = some (.slice B9 m9 d9)) (go_keep)
   (first | ((go_at_call 79; (with_reducible refine (K1.out _ (by (skip); repeat' (first | (with_reducible first | exact BlR _ _ | assumption | refine BlA ?_ ?_ _ | refine BlD ?_ | refine BlN ?_ _ | refine BlS ?_ ?_ _ | refine BlT ?_ (BlM (by assumption) ?_)) | omega | (simp only [ZZ]; omega) | go_size))).mono ?_); rintro e w1 ⟨⟨v1, rfl, own1⟩, hb1⟩; have hb1z := Below.size hb1; (try simp only [ZZ] at hb1z); obtain ⟨hb1c0, hb1f0⟩ := bbo hb1 (w.heap.size) (by first | omega | (simp only [ZZ]; omega)); have hb1l0 : w.heap.size < (w1).heap.size := (by omega); obtain ⟨hb1c1, hb1f1⟩ := bbo hb1 (w.heap.size + 1) (by first | omega | (simp only [ZZ]; omega)); have hb1l1 : w.heap.size + 1 < (w1).heap.size := (by omega); obtain ⟨hb1c2, hb1f2⟩ := bbo hb1 (w.heap.size + 2) (by first | omega | (simp only [ZZ]; omega)); have hb1l2 : w.heap.size + 2 < (w1).heap.size := (by omega)); obtain ⟨s1, A1, n1, c1, B1, m1, d1, rfl⟩ := own1.form) | ((go_at_call 53; (with_reducible refine (K2.out _ _ _ (by have z0 := Below.size hb1; (try simp only [ZZ] at z0 ⊢; skip); repeat' (first | (with_reducible first | exact BlR _ _ | assumption | refine BlA ?_ ?_ _ | refine BlD ?_ | refine BlN ?_ _ | refine BlS ?_ ?_ _ | refine BlT ?_ (BlM (by assumption) ?_)) | omega | (simp only [ZZ]; omega) | go_size)) own1).mono ?_); rintro e w2 ⟨⟨v2, rfl, own2⟩, hb2⟩; have hb2z := Below.size hb2; (try simp only [ZZ] at hb2z); obtain ⟨hb2c0, hb2f0⟩ := bbo hb2 (w.heap.size) (by first | omega | (simp only [ZZ]; omega)); have hb2l0 : w.heap.size < (w2).heap.size := (by omega); obtain ⟨hb2c1, hb2f1⟩ := bbo hb2 (w.heap.size + 1) (by first | omega | (simp only [ZZ]; omega)); have hb2l1 : w.heap.size + 1 < (w2).heap.size := (by omega); obtain ⟨hb2c2, hb2f2⟩ := bbo hb2 (w.heap.size + 2) (by first | omega | (simp only [ZZ]; omega)); have hb2l2 : w.heap.size + 2 < (w2).heap.size := (by omega)); obtain ⟨s2, A2, n2, c2, B2, m2, d2, rfl⟩ := own2.form))
 go_wp2
 refine bodyPost_ret (v := rv s2 A2 n2 c2 B2 m2 d2) (by simp [results, Tryz.results119, go_sem, hb2c2, hb1c2]) rfl ?_
 rw [Rat.sub_eq_add_neg]
 exact ⟨⟨_, rfl, own2.set3 (by omega) (by omega) _ _ _⟩, (by have z0 := Below.size hb1; have z1 := Below.size hb2; (try simp only [ZZ] at z0 z1 ⊢; skip); repeat' (first | (with_reducible first | exact BlR _ _ | assumption | refine BlA ?_ ?_ _ | refine BlD ?_ | refine BlN ?_ _ | refine BlS ?_ ?_ _ | refine BlT ?_ (BlM (by assumption) ?_)) | omega | (simp only [ZZ]; omega) | go_size))⟩
theorem rcmpQ {w : World} {L : Nat} {v u : Value} {q r : Rat} (h : RdQ w L v q) (h' : RdQ w L u r) (hL : 1 ≤ L) (hL2 : L ≤ 10000000000) :
   Calls Tryz.prog 80 #[v, u] w fun e w' => e = .returned (.int .i64 (sgnQ (q - r))) ∧ Below w.heap.size w w' := by
 have hs := (h.sz hL).sub (h'.sz hL)
 have K1 := Lib.hid (fun W (hb : Below w.heap.size w W) => rsubQ (h.below hb) (h'.below hb) hL (by omega))
 have K2 := Lib.hid (fun W base v1 (hv : OwQ W base v1 (q - r)) => rsignQ (hv.rq hs) (by omega) (by omega))
 obtain ⟨s0, A0, n0, c0, B0, m0, d0, rfl⟩ := h.form
 obtain ⟨s9, A9, n9, c9, B9, m9, d9, rfl⟩ := h'.form
 clear h h' hs
 go_enter Tryz.func80, Tryz.ntmps80
 (go_wp2_with fail; (with_reducible refine (K1.out _ (by (skip); repeat' (first | (with_reducible first | exact BlR _ _ | assumption | refine BlA ?_ ?_ _ | refine BlD ?_ | refine BlN ?_ _ | refine BlS ?_ ?_ _ | refine BlT ?_ (BlM (by assumption) ?_)) | omega | (simp only [ZZ]; omega) | go_size))).mono ?_); rintro e w1 ⟨⟨v1, rfl, own1⟩, hb1⟩; have hb1z := Below.size hb1; (try simp only [ZZ] at hb1z); obtain ⟨hb1c0, hb1f0⟩ := bbo hb1 (w.heap.size) (by first | omega | (simp only [ZZ]; omega)))
 obtain ⟨s1, A1, n1, c1, B1, m1, d1, rfl⟩ := own1.form
 (go_wp2_with fail; (with_reducible refine (K2.out _ _ _ own1).mono ?_); rintro e w2 ⟨rfl, hb2⟩; have hb2z := Below.size hb2; (try simp only [ZZ] at hb2z); obtain ⟨hb2c0, hb2f0⟩ := bbo hb2 (w.heap.size) (by first | omega | (simp only [ZZ]; omega)))
 go_wp2
 go_ret
 exact ⟨rfl, (by have z0 := Below.size hb1; have z1 := Below.size hb2; (try simp only [ZZ] at z0 z1 ⊢; skip); repeat' (first | (with_reducible first | exact BlR _ _ | assumption | refine BlA ?_ ?_ _ | refine BlD ?_ | refine BlN ?_ _ | refine BlS ?_ ?_ _ | refine BlT ?_ (BlM (by assumption) ?_)) | omega | (simp only [ZZ]; omega) | go_size))⟩
end Go.Proofs.YtoiopnmphbnjaaaGreatDoor
namespace Go.Proofs.YtoiopnmphbnjaaaGreatDoor
open Go.RowKit
set_option linter.unusedSimpArgs false
set_option linter.unusedVariables false
set_option maxRecDepth 20000
attribute [local irreducible] nv wp win plainB validR
/-! ## whole numbers as fractions, of the program and of the reference -/
theorem sq_nat (n : Nat) : sq false n 1 = (n : Rat) := by
 rw [sq_eq_div]
 have : ((1 : Nat) : Rat) = 1 := rfl
 rw [this]
 have h1 : (n : Rat) / 1 = n := by grind
 simpa using h1
/-- the two words of an int -/
def RetG (base x k : Nat) (e : Ending) (w' : World) : Prop := ∃ A c, e = .returned (.slice A k c) ∧ RdG w' A k c x
theorem rsize_nat (n : Nat) (w : World) (h : n < 4611686018427387904) :
   Calls Tryz.prog 152 #[.int .i64 (n : Int)] w fun e w' => RetG w.heap.size n 2 e w' ∧ Below w.heap.size w w' := by
 have e1 : IntKind.u32.wrap (n : Int) = ((n % 4294967296 : Nat) : Int) := by rw [IntKind.wrap_u32]; omega
 have e2 : IntKind.u32.wrap ((n : Int) / 4294967296) = ((n / 4294967296 : Nat) : Int) := by rw [IntKind.wrap_u32]; omega
 have e3 := Lib.hid (dig_two (n := n) (by omega))
 have hW : W32 [n % 4294967296, n / 4294967296] := W32.cons (by omega) (W32.one (by omega))
 generalize n % 4294967296 = x at *
 generalize n / 4294967296 = y at *
 have h3 : decide ((n : Int) < 0) = false := by simp
 go_enter Tryz.func152, Tryz.ntmps152
 go_wp2
 go_ret
 exact ⟨⟨_, _, rfl, [x, y], rfl, e3.out, hW, Nat.le_refl _, RdW.new2 (by simp) (by simp) (by simp)⟩, (by (skip); repeat' (first | (with_reducible first | exact BlR _ _ | assumption | refine BlA ?_ ?_ _ | refine BlD ?_ | refine BlN ?_ _ | refine BlS ?_ ?_ _ | refine BlT ?_ (BlM (by assumption) ?_)) | omega | (simp only [ZZ]; omega) | go_size))⟩
theorem rmakeQ (n : Nat) (w : World) (h : n < 4611686018427387904) :
   Calls Tryz.prog 120 #[.int .i64 (n : Int), .int .i64 1] w fun e w' => RetDv w.heap.size (n : Rat) (.int .i64 0) e w' ∧ Below w.heap.size w w' := by
 have K := Lib.hid (fun W => rsize_nat n W h)
 have K0 : ∀ W, Calls Tryz.prog 152 #[.int .i64 1] W fun e w' => RetG W.heap.size 1 2 e w' ∧ Below W.heap.size W w' := fun W => rsize_nat 1 W (by omega)
 have K1 := Lib.hid K0
 clear K0
 have h3 : decide ((n : Int) < 0) = false := by simp
 go_enter Tryz.func120, Tryz.ntmps120
 (go_wp2_with fail; (with_reducible refine (K.out _).mono ?_); rintro e w1 ⟨⟨A1, c1, rfl, own1⟩, hb1⟩; have hb1z := Below.size hb1; (try simp only [ZZ] at hb1z); obtain ⟨hb1c0, hb1f0⟩ := bbo hb1 (w.heap.size) (by first | omega | (simp only [ZZ]; omega)))
 (go_wp2_with fail; (with_reducible refine (K1.out _).mono ?_); rintro e w2 ⟨⟨A2, c2, rfl, own2⟩, hb2⟩; have hb2z := Below.size hb2; (try simp only [ZZ] at hb2z); obtain ⟨hb2c0, hb2f0⟩ := bbo hb2 (w.heap.size) (by first | omega | (simp only [ZZ]; omega)))
 (go_wp2_with fail; (with_reducible refine (from_any false (own1.below hb2) own2 (by omega) (by omega) (by omega)).mono ?_); rintro e w3 ⟨⟨v, rfl, own⟩, hb3⟩; have hb3z := Below.size hb3; (try simp only [ZZ] at hb3z); obtain ⟨hb3c0, hb3f0⟩ := bbo hb3 (w.heap.size) (by first | omega | (simp only [ZZ]; omega)))
 obtain ⟨s2, A2, n2, c2, B2, m2, d2, rfl⟩ := own.form
 go_wp2
 refine bodyPost_ret (v := (.tuple #[rv s2 A2 n2 c2 B2 m2 d2, .int .i64 0])) (by simp [results, Tryz.results120, go_sem, hb3c0, hb2c0, hb1c0]) rfl ?_
 rw [← sq_nat]
 exact ⟨⟨_, rfl, own.set3 (by omega) (by omega) _ _ _⟩, (by have z0 := Below.size hb1; have z1 := Below.size hb2; have z2 := Below.size hb3; (try simp only [ZZ] at z0 z1 z2 ⊢; skip); repeat' (first | (with_reducible first | exact BlR _ _ | assumption | refine BlA ?_ ?_ _ | refine BlD ?_ | refine BlN ?_ _ | refine BlS ?_ ?_ _ | refine BlT ?_ (BlM (by assumption) ?_)) | omega | (simp only [ZZ]; omega) | go_size))⟩
theorem rofQ (n : Nat) (w : World) (h : n < 4611686018427387904) :
   Calls Tryz.prog 81 #[.int .i64 (n : Int)] w fun e w' => RetQ w.heap.size (n : Rat) e w' ∧ Below w.heap.size w w' := by
 have K := Lib.hid (fun W => rmakeQ n W h)
 go_enter Tryz.func81, Tryz.ntmps81
 (go_wp2_with fail; (with_reducible refine (K.out _).mono ?_); rintro e w1 ⟨⟨v, rfl, own⟩, hb1⟩; have hb1z := Below.size hb1; (try simp only [ZZ] at hb1z); obtain ⟨hb1c0, hb1f0⟩ := bbo hb1 (w.heap.size) (by first | omega | (simp only [ZZ]; omega)))
 obtain ⟨s2, A2, n2, c2, B2, m2, d2, rfl⟩ := own.form
 (have olc := fun o i => below_at ((Below.refl w1.heap.size w1).alloc (Nat.le_refl _) o) (w.heap.size) i (by omega)); (have olf := fun o i => below_fr ((Below.refl w1.heap.size w1).alloc (Nat.le_refl _) o) (w.heap.size) i (by omega))
 go_wp2
 refine bodyPost_ret (v := rv s2 A2 n2 c2 B2 m2 d2) (by simp [results, Tryz.results81, go_sem, olc, hb1c0]) rfl ?_
 exact ⟨⟨_, rfl, (own.alloc _).set3 (by simp) (by simp) _ _ _⟩, (by have z0 := Below.size hb1; (try simp only [ZZ] at z0 ⊢; skip); repeat' (first | (with_reducible first | exact BlR _ _ | assumption | refine BlA ?_ ?_ _ | refine BlD ?_ | refine BlN ?_ _ | refine BlS ?_ ?_ _ | refine BlT ?_ (BlM (by assumption) ?_)) | omega | (simp only [ZZ]; omega) | go_size))⟩
end Go.Proofs.YtoiopnmphbnjaaaGreatDoor
