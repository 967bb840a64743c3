/- Contracts and lemmas for the given statements. Conditions: those alone that each names. -/
import Derived.Test.YtoiopnmphbnjaaaGreatDoorJRatC
set_option maxHeartbeats 2000000
namespace Go.Proofs.YtoiopnmphbnjaaaGreatDoor
open Go.RowKit
set_option linter.unusedSimpArgs false
set_option linter.unusedVariables false
set_option maxRecDepth 20000
attribute [local irreducible] nv wp win plainB validR
/-! ## package rational: Add, Sub, Cmp -/
theorem subN {A B : Option Addr} {n c n' c' x y : Nat} {w : World} (h : RdN w A n c x) (h' : RdN w B n' c' y) (hn : n ≤ 274877906900) (hn' : n' ≤ 274877906900) (hle : y ≤ x) :
   Calls Tryz.prog 73 #[.slice A n c, .slice B n' c'] w fun e w' => (∃ A' m d, e = .returned (.tuple #[.slice A' m d, .nilIface]) ∧ OwN w' w.heap.size A' m d (x - y)) ∧ Below w.heap.size w w' := by
 have := sub_any A B (dig x) (dig y) n c n' c' w h.1.symm h'.1.symm (by omega) (by omega) h.2.1 h'.2.1 (dig_W32 x) (dig_W32 y) h.2.2 h'.2.2 (by rw [nv_dig, nv_dig]; exact hle)
 rw [nv_dig, nv_dig] at this
 refine this.mono ?_
 rintro e w' ⟨A', c', rfl, h1, h2⟩
 exact ⟨⟨_, _, _, rfl, OwN.mk' h1⟩, h2⟩
theorem cmpN_ge {a b : Nat} (h : b ≤ a) : decide ((0 : Int) ≤ cmpN a b) = true := by unfold cmpN; simp; split <;> (try split) <;> omega
theorem cmpN_nge {a b : Nat} (h : ¬ b ≤ a) : cmpN a b = -1 := cmpN_lt (by omega)
theorem addQ {w : World} {L : Nat} {v u : Value} {q r : Rat} (h : RdQ w L v q) (h' : RdQ w L u r) (hL : 1 ≤ L) (hL2 : L ≤ 100000000000) :
   Calls Tryz.prog 22 #[v, u] w fun e w' => RetQ w.heap.size (q + r) e w' ∧ Below w.heap.size w w' := by
 have K := Lib.hid (fun W (hb : Below w.heap.size w W) => parts_any (h.below hb) hL hL2)
 have K' := Lib.hid (fun W (hb : Below w.heap.size w W) => parts_any (h'.below hb) hL hL2)
 obtain ⟨s0, A0, n0, c0, B0, m0, d0, rfl⟩ := h.form
 obtain ⟨s9, A9, n9, c9, B9, m9, d9, rfl⟩ := h'.form
 clear h h'
 go_enter Tryz.func22, Tryz.ntmps22
 (go_wp2_with fail; (with_reducible refine (K.out _ (by (skip); repeat' (first | (with_reducible first | exact BlR _ _ | assumption | refine BlA ?_ ?_ _ | refine BlD ?_ | refine BlN ?_ _ | refine BlS ?_ ?_ _ | refine BlT ?_ (BlM (by assumption) ?_)) | omega | (simp only [ZZ]; omega) | go_size))).mono ?_); rintro e w1 ⟨⟨s, A1, n1, c1, x, B1, m1, d1, y, rfl, rx, ry, hy, rfl, hn1, hm1, hx9, hy9⟩, hb1⟩; have hb1z := Below.size hb1; (try simp only [ZZ] at hb1z); obtain ⟨hb1c0, hb1f0⟩ := bbo hb1 (w.heap.size) (by first | omega | (simp only [ZZ]; omega)); obtain ⟨hb1c1, hb1f1⟩ := bbo hb1 (w.heap.size + 1) (by first | omega | (simp only [ZZ]; omega)); obtain ⟨hb1c2, hb1f2⟩ := bbo hb1 (w.heap.size + 2) (by first | omega | (simp only [ZZ]; omega)))
 (go_wp2_with fail; (with_reducible refine (K'.out _ (by have z0 := Below.size hb1; (try simp only [ZZ] at z0 ⊢; skip); repeat' (first | (with_reducible first | exact BlR _ _ | assumption | refine BlA ?_ ?_ _ | refine BlD ?_ | refine BlN ?_ _ | refine BlS ?_ ?_ _ | refine BlT ?_ (BlM (by assumption) ?_)) | omega | (simp only [ZZ]; omega) | go_size))).mono ?_); rintro e w2 ⟨⟨s', A2, n2, c2, x', B2, m2, d2, y', rfl, rx', ry', hy', rfl, hn2, hm2, hx9', hy9'⟩, hb2⟩; have hb2z := Below.size hb2; (try simp only [ZZ] at hb2z); obtain ⟨hb2c0, hb2f0⟩ := bbo hb2 (w.heap.size) (by first | omega | (simp only [ZZ]; omega)); obtain ⟨hb2c1, hb2f1⟩ := bbo hb2 (w.heap.size + 1) (by first | omega | (simp only [ZZ]; omega)); obtain ⟨hb2c2, hb2f2⟩ := bbo hb2 (w.heap.size + 2) (by first | omega | (simp only [ZZ]; omega)))
 clear K K'
 (go_wp2_with fail; (with_reducible refine (mulN (rx.below hb2) ry' (by omega) (by omega)).mono ?_); rintro e w3 ⟨⟨A3, n3, c3, rfl, own3⟩, hb3⟩; have hb3z := Below.size hb3; (try simp only [ZZ] at hb3z); obtain ⟨hb3c0, hb3f0⟩ := bbo hb3 (w.heap.size) (by first | omega | (simp only [ZZ]; omega)); obtain ⟨hb3c1, hb3f1⟩ := bbo hb3 (w.heap.size + 1) (by first | omega | (simp only [ZZ]; omega)); obtain ⟨hb3c2, hb3f2⟩ := bbo hb3 (w.heap.size + 2) (by first | omega | (simp only [ZZ]; omega)))
 (go_wp2_with fail; (with_reducible refine (mulN (rx'.below hb3) (ry.below (by have z0 := Below.size hb2; have z1 := Below.size hb3; (try simp only [ZZ] at z0 z1 ⊢; skip); repeat' (first | (with_reducible first | exact BlR _ _ | assumption | refine BlA ?_ ?_ _ | refine BlD ?_ | refine BlN ?_ _ | refine BlS ?_ ?_ _ | refine BlT ?_ (BlM (by assumption) ?_)) | omega | (simp only [ZZ]; omega) | go_size))) (by omega) (by omega)).mono ?_); rintro e w4 ⟨⟨A4, n4, c4, rfl, own4⟩, hb4⟩; have hb4z := Below.size hb4; (try simp only [ZZ] at hb4z); obtain ⟨hb4c0, hb4f0⟩ := bbo hb4 (w.heap.size) (by first | omega | (simp only [ZZ]; omega)); obtain ⟨hb4c1, hb4f1⟩ := bbo hb4 (w.heap.size + 1) (by first | omega | (simp only [ZZ]; omega)); obtain ⟨hb4c2, hb4f2⟩ := bbo hb4 (w.heap.size + 2) (by first | omega | (simp only [ZZ]; omega)))
 (go_wp2_with fail; (with_reducible refine (mulN (ry.below (by have z0 := Below.size hb2; have z1 := Below.size hb3; have z2 := Below.size hb4; (try simp only [ZZ] at z0 z1 z2 ⊢; skip); repeat' (first | (with_reducible first | exact BlR _ _ | assumption | refine BlA ?_ ?_ _ | refine BlD ?_ | refine BlN ?_ _ | refine BlS ?_ ?_ _ | refine BlT ?_ (BlM (by assumption) ?_)) | omega | (simp only [ZZ]; omega) | go_size))) (ry'.below (by have z0 := Below.size hb3; have z1 := Below.size hb4; (try simp only [ZZ] at z0 z1 ⊢; skip); repeat' (first | (with_reducible first | exact BlR _ _ | assumption | refine BlA ?_ ?_ _ | refine BlD ?_ | refine BlN ?_ _ | refine BlS ?_ ?_ _ | refine BlT ?_ (BlM (by assumption) ?_)) | omega | (simp only [ZZ]; omega) | go_size))) (by omega) (by omega)).mono ?_); rintro e w5 ⟨⟨A5, n5, c5, rfl, own5⟩, hb5⟩; have hb5z := Below.size hb5; (try simp only [ZZ] at hb5z); obtain ⟨hb5c0, hb5f0⟩ := bbo hb5 (w.heap.size) (by first | omega | (simp only [ZZ]; omega)); obtain ⟨hb5c1, hb5f1⟩ := bbo hb5 (w.heap.size + 1) (by first | omega | (simp only [ZZ]; omega)); obtain ⟨hb5c2, hb5f2⟩ := bbo hb5 (w.heap.size + 2) (by first | omega | (simp only [ZZ]; omega)))
 have l3 := RetP.len own3 hx9 hy9'
 have l4 := RetP.len own4 hx9' hy9
 have l5 := RetP.len own5 hy9 hy9'
 have hden := Nat.mul_ne_zero hy hy'
 have HY := Lib.hid hy
 have HY' := Lib.hid hy'
 have r3 := own3.rd.below (show Below _ w3 w5 from (by have z0 := Below.size hb4; have z1 := Below.size hb5; (try simp only [ZZ] at z0 z1 ⊢; skip); repeat' (first | (with_reducible first | exact BlR _ _ | assumption | refine BlA ?_ ?_ _ | refine BlD ?_ | refine BlN ?_ _ | refine BlS ?_ ?_ _ | refine BlT ?_ (BlM (by assumption) ?_)) | omega | (simp only [ZZ]; omega) | go_size)))
 have r4 := own4.rd.below hb5
 have r5 := own5.rd
 by_cases hs : s = s'
 · subst hs
   (go_wp2_with fail; (with_reducible refine (addN r3 r4 (by omega) (by omega)).mono ?_); rintro e w6 ⟨⟨A6, n6, c6, rfl, own6⟩, hb6⟩; have hb6z := Below.size hb6; (try simp only [ZZ] at hb6z); obtain ⟨hb6c0, hb6f0⟩ := bbo hb6 (w.heap.size) (by first | omega | (simp only [ZZ]; omega)); obtain ⟨hb6c1, hb6f1⟩ := bbo hb6 (w.heap.size + 1) (by first | omega | (simp only [ZZ]; omega)); obtain ⟨hb6c2, hb6f2⟩ := bbo hb6 (w.heap.size + 2) (by first | omega | (simp only [ZZ]; omega)))
   have l6 : n6 ≤ 274877906900 := by
     rw [own6.1]
     have e := dig_length_le (k := L + L + 1) (n := x * y' + x' * y) (by
       have := wp_mul_lt hx9 hy9'
       have := wp_mul_lt hx9' hy9
       have := wp_succ (L + L)
       omega)
     omega
   (go_wp2_with fail; (with_reducible refine (form_any s own6.rd (r5.below hb6) (by omega) (by omega) hden).mono ?_); rintro e w7 ⟨⟨v, rfl, own⟩, hb7⟩; have hb7z := Below.size hb7; (try simp only [ZZ] at hb7z); obtain ⟨hb7c0, hb7f0⟩ := bbo hb7 (w.heap.size) (by first | omega | (simp only [ZZ]; omega)); obtain ⟨hb7c1, hb7f1⟩ := bbo hb7 (w.heap.size + 1) (by first | omega | (simp only [ZZ]; omega)); obtain ⟨hb7c2, hb7f2⟩ := bbo hb7 (w.heap.size + 2) (by first | omega | (simp only [ZZ]; omega)))
   obtain ⟨s2, A2, n2, c2, B2, m2, d2, rfl⟩ := own.form
   go_wp2
   refine bodyPost_ret (v := rv s2 A2 n2 c2 B2 m2 d2) (by simp [results, Tryz.results22, go_sem, hb7c2, hb6c2, hb5c2, hb4c2, hb3c2, hb2c2, hb1c2]) rfl ?_
   rw [sq_add_same _ _ _ _ _ HY.out HY'.out]
   exact ⟨⟨_, rfl, own.set3 (by omega) (by omega) _ _ _⟩, (by have z0 := Below.size hb1; have z1 := Below.size hb2; have z2 := Below.size hb3; have z3 := Below.size hb4; have z4 := Below.size hb5; have z5 := Below.size hb6; have z6 := Below.size hb7; (try simp only [ZZ] at z0 z1 z2 z3 z4 z5 z6 ⊢; skip); repeat' (first | (with_reducible first | exact BlR _ _ | assumption | refine BlA ?_ ?_ _ | refine BlD ?_ | refine BlN ?_ _ | refine BlS ?_ ?_ _ | refine BlT ?_ (BlM (by assumption) ?_)) | omega | (simp only [ZZ]; omega) | go_size))⟩
 · have hs1 : (s == s') = false := by simpa using hs
   have HS := Lib.hid hs
   clear hs
   (go_wp2_with fail; (with_reducible refine (cmpNN r3 r4 (by omega) (by omega)).mono ?_); rintro e w6 ⟨rfl, hb6⟩; have hb6z := Below.size hb6; (try simp only [ZZ] at hb6z); obtain ⟨hb6c0, hb6f0⟩ := bbo hb6 (w.heap.size) (by first | omega | (simp only [ZZ]; omega)); obtain ⟨hb6c1, hb6f1⟩ := bbo hb6 (w.heap.size + 1) (by first | omega | (simp only [ZZ]; omega)); obtain ⟨hb6c2, hb6f2⟩ := bbo hb6 (w.heap.size + 2) (by first | omega | (simp only [ZZ]; omega)))
   by_cases hle : x' * y ≤ x * y'
   · have hc := cmpN_ge hle
     generalize cmpN (x * y') (x' * y) = q at *
     (go_wp2_with fail; (with_reducible refine (subN (r3.below hb6) (r4.below hb6) (by omega) (by omega) hle).mono ?_); rintro e w7 ⟨⟨A6, n6, c6, rfl, own6⟩, hb7⟩; have hb7z := Below.size hb7; (try simp only [ZZ] at hb7z); obtain ⟨hb7c0, hb7f0⟩ := bbo hb7 (w.heap.size) (by first | omega | (simp only [ZZ]; omega)); obtain ⟨hb7c1, hb7f1⟩ := bbo hb7 (w.heap.size + 1) (by first | omega | (simp only [ZZ]; omega)); obtain ⟨hb7c2, hb7f2⟩ := bbo hb7 (w.heap.size + 2) (by first | omega | (simp only [ZZ]; omega)))
     have l6 : n6 ≤ 274877906900 := by
       rw [own6.1]
       have e := dig_length_le (k := L + L) (n := x * y' - x' * y) (by
         have := wp_mul_lt hx9 hy9'
         omega)
       omega
     (go_wp2_with fail; (with_reducible refine (form_any s own6.rd (r5.below (by have z0 := Below.size hb6; have z1 := Below.size hb7; (try simp only [ZZ] at z0 z1 ⊢; skip); repeat' (first | (with_reducible first | exact BlR _ _ | assumption | refine BlA ?_ ?_ _ | refine BlD ?_ | refine BlN ?_ _ | refine BlS ?_ ?_ _ | refine BlT ?_ (BlM (by assumption) ?_)) | omega | (simp only [ZZ]; omega) | go_size))) (by omega) (by omega) hden).mono ?_); rintro e w8 ⟨⟨v, rfl, own⟩, hb8⟩; have hb8z := Below.size hb8; (try simp only [ZZ] at hb8z); obtain ⟨hb8c0, hb8f0⟩ := bbo hb8 (w.heap.size) (by first | omega | (simp only [ZZ]; omega)); obtain ⟨hb8c1, hb8f1⟩ := bbo hb8 (w.heap.size + 1) (by first | omega | (simp only [ZZ]; omega)); obtain ⟨hb8c2, hb8f2⟩ := bbo hb8 (w.heap.size + 2) (by first | omega | (simp only [ZZ]; omega)))
     obtain ⟨s2, A2, n2, c2, B2, m2, d2, rfl⟩ := own.form
     go_wp2
     refine bodyPost_ret (v := rv s2 A2 n2 c2 B2 m2 d2) (by simp [results, Tryz.results22, go_sem, hb8c2, hb7c2, hb6c2, hb5c2, hb4c2, hb3c2, hb2c2, hb1c2]) rfl ?_
     rw [sq_add_ne _ _ _ _ _ _ HY.out HY'.out HS.out hle]
     exact ⟨⟨_, rfl, own.set3 (by omega) (by omega) _ _ _⟩, (by have z0 := Below.size hb1; have z1 := Below.size hb2; have z2 := Below.size hb3; have z3 := Below.size hb4; have z4 := Below.size hb5; have z5 := Below.size hb6; have z6 := Below.size hb7; have z7 := Below.size hb8; (try simp only [ZZ] at z0 z1 z2 z3 z4 z5 z6 z7 ⊢; skip); repeat' (first | (with_reducible first | exact BlR _ _ | assumption | refine BlA ?_ ?_ _ | refine BlD ?_ | refine BlN ?_ _ | refine BlS ?_ ?_ _ | refine BlT ?_ (BlM (by assumption) ?_)) | omega | (simp only [ZZ]; omega) | go_size))⟩
   · have hc := cmpN_nge hle
     rw [hc]
     have hle2 : x * y' ≤ x' * y := by omega
     clear hle hc
     (go_wp2_with fail; (with_reducible refine (subN (r4.below hb6) (r3.below hb6) (by omega) (by omega) hle2).mono ?_); rintro e w7 ⟨⟨A6, n6, c6, rfl, own6⟩, hb7⟩; have hb7z := Below.size hb7; (try simp only [ZZ] at hb7z); obtain ⟨hb7c0, hb7f0⟩ := bbo hb7 (w.heap.size) (by first | omega | (simp only [ZZ]; omega)); obtain ⟨hb7c1, hb7f1⟩ := bbo hb7 (w.heap.size + 1) (by first | omega | (simp only [ZZ]; omega)); obtain ⟨hb7c2, hb7f2⟩ := bbo hb7 (w.heap.size + 2) (by first | omega | (simp only [ZZ]; omega)))
     have l6 : n6 ≤ 274877906900 := by
       rw [own6.1]
       have e := dig_length_le (k := L + L) (n := x' * y - x * y') (by
         have := wp_mul_lt hx9' hy9
         omega)
       omega
     (go_wp2_with fail; (with_reducible refine (form_any s' own6.rd (r5.below (by have z0 := Below.size hb6; have z1 := Below.size hb7; (try simp only [ZZ] at z0 z1 ⊢; skip); repeat' (first | (with_reducible first | exact BlR _ _ | assumption | refine BlA ?_ ?_ _ | refine BlD ?_ | refine BlN ?_ _ | refine BlS ?_ ?_ _ | refine BlT ?_ (BlM (by assumption) ?_)) | omega | (simp only [ZZ]; omega) | go_size))) (by omega) (by omega) hden).mono ?_); rintro e w8 ⟨⟨v, rfl, own⟩, hb8⟩; have hb8z := Below.size hb8; (try simp only [ZZ] at hb8z); obtain ⟨hb8c0, hb8f0⟩ := bbo hb8 (w.heap.size) (by first | omega | (simp only [ZZ]; omega)); obtain ⟨hb8c1, hb8f1⟩ := bbo hb8 (w.heap.size + 1) (by first | omega | (simp only [ZZ]; omega)); obtain ⟨hb8c2, hb8f2⟩ := bbo hb8 (w.heap.size + 2) (by first | omega | (simp only [ZZ]; omega)))
     obtain ⟨s2, A2, n2, c2, B2, m2, d2, rfl⟩ := own.form
     go_wp2
     refine bodyPost_ret (v := rv s2 A2 n2 c2 B2 m2 d2) (by simp [results, Tryz.results22, go_sem, hb8c2, hb7c2, hb6c2, hb5c2, hb4c2, hb3c2, hb2c2, hb1c2]) rfl ?_
     rw [Rat.add_comm, sq_add_ne _ _ _ _ _ _ HY'.out HY.out (Ne.symm HS.out) hle2, Nat.mul_comm y']
     exact ⟨⟨_, rfl, own.set3 (by omega) (by omega) _ _ _⟩, (by have z0 := Below.size hb1; have z1 := Below.size hb2; have z2 := Below.size hb3; have z3 := Below.size hb4; have z4 := Below.size hb5; have z5 := Below.size hb6; have z6 := Below.size hb7; have z7 := Below.size hb8; (try simp only [ZZ] at z0 z1 z2 z3 z4 z5 z6 z7 ⊢; skip); repeat' (first | (with_reducible first | exact BlR _ _ | assumption | refine BlA ?_ ?_ _ | refine BlD ?_ | refine BlN ?_ _ | refine BlS ?_ ?_ _ | refine BlT ?_ (BlM (by assumption) ?_)) | omega | (simp only [ZZ]; omega) | go_size))⟩
end Go.Proofs.YtoiopnmphbnjaaaGreatDoor
namespace Go.Proofs.YtoiopnmphbnjaaaGreatDoor
open Go.RowKit
set_option linter.unusedSimpArgs false
set_option linter.unusedVariables false
set_option maxRecDepth 20000
attribute [local irreducible] nv wp win plainB validR
/-! ## the reference's fractions: Valid, Parts, From -/
/-- a number in memory, in whatever form -/
def RdG (w : World) (A : Option Addr) (n c x : Nat) : Prop := ∃ l, l.length = n ∧ nv l = x ∧ W32 l ∧ n ≤ c ∧ RdW w w.heap.size A l
theorem RdN.g {w : World} {A : Option Addr} {n c x : Nat} (h : RdN w A n c x) : RdG w A n c x := ⟨dig x, h.1.symm, nv_dig x, dig_W32 x, h.2.1, h.2.2⟩
theorem RdG.below {w w' : World} {A : Option Addr} {n c x : Nat} (h : RdG w A n c x) (hb : Below w.heap.size w w') : RdG w' A n c x := by
 obtain ⟨l, h1, h2, h3, h4, h5⟩ := h
 exact ⟨l, h1, h2, h3, h4, h5.on hb hb.size⟩
theorem RdG.lt {w : World} {A : Option Addr} {n c x : Nat} (h : RdG w A n c x) : x < wp n := by
 obtain ⟨l, h1, h2, h3, h4, h5⟩ := h
 rw [← h1, ← h2]; exact nv_lt h3
section
variable {A B : Option Addr} {n c n' c' x y : Nat} {w : World}
theorem rbitsG (h : RdG w A n c x) (hn : n ≤ 274877906900) :
   Calls Tryz.prog 117 #[.slice A n c] w fun e w' => e = .returned (.int .i64 (bl x : Nat)) ∧ w = w' := by
 obtain ⟨l, rfl, rfl, h3, h4, h5⟩ := h
 exact rbits_any A l _ c w rfl (by omega) h3 h5
theorem rgcdG (h : RdG w A n c x) (h' : RdG w B n' c' y) (hn : n ≤ 274877906900) (hn' : n' ≤ 274877906900) :
   Calls Tryz.prog 118 #[.slice A n c, .slice B n' c'] w fun e w' => RetN w.heap.size (x.gcd y) e w' ∧ Below w.heap.size w w' := by
 obtain ⟨l, rfl, rfl, h3, h4, h5⟩ := h
 obtain ⟨l', rfl, rfl, h3', h4', h5'⟩ := h'
 exact (rgcd_any A B l l' _ c _ c' w rfl rfl hn hn' h4 h4' h3 h3' h5 h5').mono fun _ _ => ret3
theorem rdivG (h : RdG w A n c x) (h' : RdG w B n' c' y) (hn : n ≤ 274877906900) (hn' : n' ≤ 274877906900) (hy : y ≠ 0) :
   Calls Tryz.prog 138 #[.slice A n c, .slice B n' c'] w fun e w' => RetD (.int .i64 0) w.heap.size x y e w' ∧ Below w.heap.size w w' := by
 obtain ⟨l, rfl, rfl, h3, h4, h5⟩ := h
 obtain ⟨l', rfl, rfl, h3', h4', h5'⟩ := h'
 refine (rdiv_any A B l l' _ c _ c' w rfl rfl hn hn' h4 h4' h3 h3' h5 h5' hy).mono ?_
 rintro e w' ⟨⟨A1, c1, A2, c2, rfl, h1, h2⟩, h3⟩
 exact ⟨⟨_, _, _, _, _, _, rfl, OwN.mk' h1, OwN.mk' h2⟩, h3⟩
end
theorem bl_pos {x : Nat} (h : x ≠ 0) : ((bl x : Nat) : Int) ≠ 0 := by
 have := bl_eq_zero (n := x)
 omega
theorem from_any (s : Bool) {A B : Option Addr} {n c n' d x y : Nat} {w : World} (h : RdG w A n c x) (h' : RdG w B n' d y) (hn : n ≤ 274877906900) (hn' : n' ≤ 274877906900) (hy : y ≠ 0) :
   Calls Tryz.prog 96 #[.bool s, .slice A n c, .slice B n' d] w fun e w' => RetDv w.heap.size (sq s x y) (.int .i64 0) e w' ∧ Below w.heap.size w w' := by
 have K1 := Lib.hid (fun W (hb : Below w.heap.size w W) => rbitsG (h.below hb) hn)
 have K1' := Lib.hid (fun W (hb : Below w.heap.size w W) => rbitsG (h'.below hb) hn')
 have K2 := Lib.hid (fun W (hb : Below w.heap.size w W) => rgcdG (h.below hb) (h'.below hb) hn hn')
 have hbA : ∀ o, Below w.heap.size w (w.alloc o) := fun o => (Below.refl _ _).alloc (Nat.le_refl _) o
 have hyb := bl_pos hy
 by_cases hx : x = 0
 · subst hx
   rw [sq_zero]
   have hb0 : bl 0 = 0 := rfl
   rw [hb0] at K1
   generalize bl y = b' at *
   have hb1' : ((b' : Int) == 0) = false := by simpa using hyb
   go_enter Tryz.func96, Tryz.ntmps96
   go_wp2_with fail
   (with_reducible refine (K1'.out _ (hbA _)).mono ?_)
   rintro e _ ⟨rfl, rfl⟩
   go_wp2_with fail
   (with_reducible refine (K1.out _ (hbA _)).mono ?_)
   rintro e _ ⟨rfl, rfl⟩
   go_wp2
   refine bodyPost_ret (v := (.tuple #[rv false none 0 0 none 0 0, .int .i64 0])) (by simp [results, Tryz.results96, go_sem]) rfl ?_
   exact ⟨⟨_, rfl, OwQ.zero _ _⟩, (by (skip); repeat' (first | (with_reducible first | exact BlR _ _ | assumption | refine BlA ?_ ?_ _ | refine BlD ?_ | refine BlN ?_ _ | refine BlS ?_ ?_ _ | refine BlT ?_ (BlM (by assumption) ?_)) | omega | (simp only [ZZ]; omega) | go_size))⟩
 · have hb0 := bl_pos hx
   have hg : x.gcd y ≠ 0 := by have := Nat.gcd_pos_of_pos_right x (show 0 < y by omega); omega
   have hgl : (dig (x.gcd y)).length ≤ n' := dig_length_le (Nat.lt_of_le_of_lt (Nat.gcd_le_right x (by omega)) h'.lt)
   generalize bl x = b at *
   generalize bl y = b' at *
   have hb1 : ((b : Int) == 0) = false := by simpa using hb0
   have hb1' : ((b' : Int) == 0) = false := by simpa using hyb
   go_enter Tryz.func96, Tryz.ntmps96
   go_wp2_with fail
   (with_reducible refine (K1'.out _ (hbA _)).mono ?_)
   rintro e _ ⟨rfl, rfl⟩
   go_wp2_with fail
   (with_reducible refine (K1.out _ (hbA _)).mono ?_)
   rintro e _ ⟨rfl, rfl⟩
   go_wp2_with fail
   (with_reducible refine (K2.out _ (hbA _)).mono ?_)
   rintro e w1 ⟨⟨A1, n1, c1, rfl, own1⟩, hb1⟩
   have hn1 : n1 ≤ 274877906900 := by have := own1.1; omega
   have hb1z := Below.size hb1
   have hb1c := fun o => below_at hb1 w.heap.size o (by simp only [World.size_alloc]; omega)
   have hb1f := fun o => below_fr hb1 w.heap.size o (by simp only [World.size_alloc]; omega)
   have hw1 := Lib.hid ((hbA _).trans (hb1.mono (by simp)))
   simp only [World.size_alloc] at hb1z
   (go_wp2_with fail; (with_reducible refine (rdivG (h.below hw1.out) own1.rd.g hn hn1 hg).mono ?_); rintro e w2 ⟨⟨A3, n3, c3, A4, n4, c4, rfl, own3, own4⟩, hb2⟩; have hb2z := Below.size hb2; (try simp only [ZZ] at hb2z); obtain ⟨hb2c0, hb2f0⟩ := bbo hb2 (w.heap.size) (by first | omega | (simp only [ZZ]; omega)))
   (go_wp2_with fail; (with_reducible refine (rdivG (h'.below (hw1.out.trans (hb2.mono (by omega)))) (own1.rd.below hb2).g hn' hn1 hg).mono ?_); rintro e w3 ⟨⟨A5, n5, c5, A6, n6, c6, rfl, own5, own6⟩, hb3⟩; have hb3z := Below.size hb3; (try simp only [ZZ] at hb3z); obtain ⟨hb3c0, hb3f0⟩ := bbo hb3 (w.heap.size) (by first | omega | (simp only [ZZ]; omega)))
   go_wp2
   refine bodyPost_ret (v := (.tuple #[rv s A3 n3 c3 A5 n5 c5, .int .i64 0])) (by simp [results, Tryz.results96, go_sem, hb3c0, hb2c0, hb1c]) rfl ?_
   have o3 := own3.below hb3
   exact ⟨⟨_, rfl, OwQ.mk' hx hy ((((o3.set_ (by show w.heap.size < _; omega) _).set_ (by show w.heap.size < _; omega) _).set_ (by show w.heap.size < _; omega) _).base_ (by omega)) ((((own5.set_ (by show w.heap.size < _; omega) _).set_ (by show w.heap.size < _; omega) _).set_ (by show w.heap.size < _; omega) _).base_ (by omega))⟩, (by have z0 := Below.size hw1.out; have z1 := Below.size hb2; have z2 := Below.size hb3; (try simp only [ZZ] at z0 z1 z2 ⊢; skip); repeat' (first | (with_reducible first | exact BlR _ _ | assumption | refine BlA ?_ ?_ _ | refine BlD ?_ | refine BlN ?_ _ | refine BlS ?_ ?_ _ | refine BlT ?_ (BlM (by assumption) ?_)) | omega | (simp only [ZZ]; omega) | go_size))⟩
theorem validR_l0 {s : Bool} {l m : List Nat} (h0 : ¬ (l.length = 0 ∧ m.length = 0)) (h : l.length = 0 ∨ m.length = 0) : validR (s, l, m) = false := by
 have hp : ∀ a : List Nat, a.length = 0 → plainB a = false := by
   intro a ha
   obtain rfl := List.length_eq_zero_iff.1 ha
   unfold plainB; rfl
 rcases h with h | h
 · exact validR_no1 h0 (hp _ h)
 · exact validR_no2 h0 (hp _ h)
theorem plainB_at {l : List Nat} (h0 : l.length ≠ 0) : plainB l = decide (l[l.length - 1]'(by omega) ≠ 0) := by
 unfold plainB
 rw [List.getLast?_eq_getElem?, List.getElem?_eq_getElem (show l.length - 1 < l.length by omega)]
 have h1 : l.isEmpty = false := by cases l; exact absurd rfl h0; rfl
 rw [h1]
 by_cases h2 : l[l.length - 1]'(by omega) = 0 <;> simp [h2]
theorem bl_one (g : Nat) : ((bl g : Nat) == 1) = (g == 1) := by
 have := bl_eq_one (n := g)
 by_cases h : g = 1
 · rw [beq_iff_eq.2 h, beq_iff_eq.2 (this.2 h)]
 · have h2 : bl g ≠ 1 := fun e => h (this.1 e)
   rw [beq_eq_false_iff_ne.2 h, beq_eq_false_iff_ne.2 h2]
end Go.Proofs.YtoiopnmphbnjaaaGreatDoor
namespace Go.Proofs.YtoiopnmphbnjaaaGreatDoor
open Go.RowKit
set_option linter.unusedSimpArgs false
set_option linter.unusedVariables false
set_option maxRecDepth 20000
attribute [local irreducible] nv wp win plainB validR
theorem icast_beq (q : Nat) : ((q : Int) == 1) = (q == 1) := by
 by_cases h : q = 1
 · subst h; rfl
 · rw [beq_eq_false_iff_ne.2 h, beq_eq_false_iff_ne.2 (by omega)]
theorem rvalid_any (s : Bool) (A B : Option Addr) (l m : List Nat) (c c' : Nat) (w : World) (hn : l.length ≤ 274877906900) (hn' : m.length ≤ 274877906900) (hcap : l.length ≤ c) (hcap' : m.length ≤ c') (hW : W32 l) (hW' : W32 m)
   (h : RdW w w.heap.size A l) (h' : RdW w w.heap.size B m) :
   Calls Tryz.prog 78 #[rv s A l.length c B m.length c'] w fun e w' => e = .returned (.bool (validR (s, l, m))) ∧ Below w.heap.size w w' := by
 have hbA : ∀ o, Below w.heap.size w (w.alloc o) := fun o => (Below.refl _ _).alloc (Nat.le_refl _) o
 by_cases h0 : l.length = 0 ∧ m.length = 0
 · obtain ⟨e1, e2⟩ := h0
   obtain rfl := List.length_eq_zero_iff.1 e1
   obtain rfl := List.length_eq_zero_iff.1 e2
   rw [validR_zero]
   go_enter Tryz.func78, Tryz.ntmps78
   go_wp2
   go_quiet (fail)
   go_wp2
   go_ret
   exact ⟨rfl, (by (skip); repeat' (first | (with_reducible first | exact BlR _ _ | assumption | refine BlA ?_ ?_ _ | refine BlD ?_ | refine BlN ?_ _ | refine BlS ?_ ?_ _ | refine BlT ?_ (BlM (by assumption) ?_)) | omega | (simp only [ZZ]; omega) | go_size))⟩
 · by_cases h1 : l.length = 0 ∨ m.length = 0
   · rw [validR_l0 h0 h1]
     have h2 : ((l.length : Int) == 0 && (m.length : Int) == 0) = false := by
       rw [Bool.and_eq_false_iff]
       by_cases e : l.length = 0
       · exact .inr (beq_eq_false_iff_ne.2 (by omega))
       · exact .inl (beq_eq_false_iff_ne.2 (by omega))
     clear h h' hW hW' h0
     generalize l.length = n at *
     generalize m.length = n' at *
     by_cases e : n = 0
     · subst e
       have hz : ((n' : Int) == 0) = false := by simpa using h2
       clear h2 h1
       go_enter Tryz.func78, Tryz.ntmps78
       go_wp2
       go_quiet (fail)
       go_wp2
       go_ret
       exact ⟨rfl, (by (skip); repeat' (first | (with_reducible first | exact BlR _ _ | assumption | refine BlA ?_ ?_ _ | refine BlD ?_ | refine BlN ?_ _ | refine BlS ?_ ?_ _ | refine BlT ?_ (BlM (by assumption) ?_)) | omega | (simp only [ZZ]; omega) | go_size))⟩
     · have hz : ((n : Int) == 0) = false := by simpa using e
       have hz' : n' = 0 := by omega
       subst hz'
       clear h2 h1
       go_enter Tryz.func78, Tryz.ntmps78
       go_wp2
       go_quiet (fail)
       go_wp2
       go_ret
       exact ⟨rfl, (by (skip); repeat' (first | (with_reducible first | exact BlR _ _ | assumption | refine BlA ?_ ?_ _ | refine BlD ?_ | refine BlN ?_ _ | refine BlS ?_ ?_ _ | refine BlT ?_ (BlM (by assumption) ?_)) | omega | (simp only [ZZ]; omega) | go_size))⟩
   · rw [not_or] at h1
     obtain ⟨e1, e2⟩ := h1
     have HV1 := Lib.hid (fun hp => validR_no1 (s := s) h0 (plainB_at e1 ▸ hp))
     have HV2 := Lib.hid (fun hp => validR_no2 (s := s) h0 (plainB_at e2 ▸ hp))
     have HV3 := Lib.hid (fun hp hp' => validR_yes (s := s) h0 (plainB_at e1 ▸ hp) (plainB_at e2 ▸ hp'))
     have hlt1 : l.length - 1 < l.length := by omega
     have hlt2 : m.length - 1 < m.length := by omega
     obtain ⟨b1, off1, rfl, hb1, hc1⟩ := h.at_ hlt1
     obtain ⟨b2, off2, rfl, hb2, hc2⟩ := h'.at_ hlt2
     have K3 := Lib.hid (fun W (hb : Below w.heap.size w W) => rgcdG (w := W) ⟨l, rfl, rfl, hW, hcap, h.on hb hb.size⟩ ⟨m, rfl, rfl, hW', hcap', h'.on hb hb.size⟩ hn hn')
     have hg : (dig ((nv l).gcd (nv m))).length ≤ 274877906900 := by
       have b1 : (dig (nv l)).length ≤ l.length := dig_length_le (nv_lt hW)
       have b2 : (dig (nv m)).length ≤ m.length := dig_length_le (nv_lt hW')
       rcases Nat.eq_zero_or_pos (nv l) with e | e
       · rw [e, Nat.gcd_zero_left]; omega
       · have := dig_len_mono (Nat.gcd_le_left (nv m) e); omega
     have hx1 := hW.at_ hlt1
     have hx2 := hW'.at_ hlt2
     clear h h' hW hW' h0
     generalize (nv l).gcd (nv m) = g at *
     generalize validR (s, l, m) = R at *
     generalize l[l.length - 1] = x at *
     generalize m[m.length - 1] = y at *
     have hz1 : ((l.length : Int) == 0) = false := by simpa using e1
     have hz2 : ((m.length : Int) == 0) = false := by simpa using e2
     by_cases hx0 : x = 0
     · subst hx0
       rw [HV1.out (by simp)]
       go_enter Tryz.func78, Tryz.ntmps78
       go_wp2
       go_quiet (fail)
       go_wp2
       go_ret
       exact ⟨rfl, (by (skip); repeat' (first | (with_reducible first | exact BlR _ _ | assumption | refine BlA ?_ ?_ _ | refine BlD ?_ | refine BlN ?_ _ | refine BlS ?_ ?_ _ | refine BlT ?_ (BlM (by assumption) ?_)) | omega | (simp only [ZZ]; omega) | go_size))⟩
     · have hx9 : ((x : Int) == 0) = false := by simpa using hx0
       have hx8 : ((x : Int) != 0) = true := by simpa using hx0
       have hi2 : (1 : Int) ≤ m.length := by omega
       have hi3 : (m.length : Int) - 1 < m.length := by omega
       by_cases hy0 : y = 0
       · subst hy0
         rw [HV2.out (by simp)]
         clear hx0
         go_enter Tryz.func78, Tryz.ntmps78
         go_wp2
         go_quiet (fail)
         go_wp2
         go_ret
         exact ⟨rfl, (by (skip); repeat' (first | (with_reducible first | exact BlR _ _ | assumption | refine BlA ?_ ?_ _ | refine BlD ?_ | refine BlN ?_ _ | refine BlS ?_ ?_ _ | refine BlT ?_ (BlM (by assumption) ?_)) | omega | (simp only [ZZ]; omega) | go_size))⟩
       · have hy9 : ((y : Int) == 0) = false := by simpa using hy0
         have hy8 : ((y : Int) != 0) = true := by simpa using hy0
         rw [HV3.out (by simpa using hx0) (by simpa using hy0), ← bl_one]
         clear hx0 hy0
         go_enter Tryz.func78, Tryz.ntmps78
         go_wp2
         go_quiet (fail)
         go_wp2_with fail
         (with_reducible refine (K3.out _ (by (skip); repeat' (first | (with_reducible first | exact BlR _ _ | assumption | refine BlA ?_ ?_ _ | refine BlD ?_ | refine BlN ?_ _ | refine BlS ?_ ?_ _ | refine BlT ?_ (BlM (by assumption) ?_)) | omega | (simp only [ZZ]; omega) | go_size))).mono ?_)
         rintro e w3 ⟨⟨A3, n3, c3, rfl, own3⟩, hb3⟩
         have l3 : n3 ≤ 274877906900 := by rw [own3.1]; exact hg
         have hb3z := Below.size hb3
         go_wp2_with fail
         (with_reducible refine (rbitsN own3.rd (by omega)).mono ?_)
         rintro e _ ⟨rfl, rfl⟩
         obtain ⟨q, hq⟩ : ∃ q, q = bl g := ⟨_, rfl⟩
         rw [← hq]
         have HQ := Lib.hid hq
         clear hq
         go_wp2
         go_ret
         exact ⟨by rw [← HQ.out]; exact ret_bool (icast_beq q), (by have z0 := Below.size hb3; (try simp only [ZZ] at z0 ⊢; skip); repeat' (first | (with_reducible first | exact BlR _ _ | assumption | refine BlA ?_ ?_ _ | refine BlD ?_ | refine BlN ?_ _ | refine BlS ?_ ?_ _ | refine BlT ?_ (BlM (by assumption) ?_)) | omega | (simp only [ZZ]; omega) | go_size))⟩
theorem rparts_any {w : World} {L : Nat} {v : Value} {q : Rat} (h : RdQ w L v q) (hL : 1 ≤ L) (hL2 : L ≤ 100000000000) :
   Calls Tryz.prog 94 #[v] w fun e w' => RetP L q e w' ∧ Below w.heap.size w w' := by
 obtain ⟨⟨s, l, m⟩, ⟨A, c, B, d, rfl, hc, hd, hok, hA, hB⟩, rfl, hl, hm⟩ := h
 simp only at hc hd hA hB hl hm ⊢
 have hbA : ∀ o, Below w.heap.size w (w.alloc o) := fun o => (Below.refl _ _).alloc (Nat.le_refl _) o
 have K := Lib.hid (fun W (hb : Below w.heap.size w W) => rvalid_any s A B l m c d W (by omega) (by omega) hc hd hok.1 hok.2 (hA.on hb hb.size) (hB.on hb hb.size))
 have HR := Lib.hid (fun W (hb : Below w.heap.size w W) hv hne => retP_num (L := L) (w' := W) hok hv hne hc hd hl hm (hA.on hb hb.size) (hB.on hb hb.size))
 have HZ := Lib.hid (valR_of_not (r := (s, l, m)))
 cases hv : validR (s, l, m) with
 | false =>
   rw [hv] at K
   have HQ := Lib.hid (HZ.out hv)
   clear hv HZ HR hok hA hB
   generalize valR (s, l, m) = q at *
   generalize l.length = n at *
   generalize m.length = n' at *
   go_enter Tryz.func94, Tryz.ntmps94
   go_wp2_with (first | (go_at_call 78; (with_reducible refine (K.out _ (hbA _)).mono ?_); rintro e w1 ⟨rfl, hb1⟩; have hb1z := Below.size hb1; (try simp only [ZZ] at hb1z); obtain ⟨hb1c0, hb1f0⟩ := bbo hb1 (w.heap.size) (by first | omega | (simp only [ZZ]; omega)); have hb1l0 : w.heap.size < (w1).heap.size := (by omega)) | fail)
   refine bodyPost_ret (v := (.tuple #[.bool false, .slice none 0 0, .slice (some ⟨w1.heap.size, 0, none⟩) 1 1])) (by simp [results, Tryz.results94, go_sem]) rfl ?_
   exact ⟨retP_zero (base := w.heap.size) hL HQ.out ⟨by rw [dig_one]; rfl, Nat.le_refl _, by rw [dig_one]; exact OwW.lit1 (x := 1) (by omega)⟩, (by have z0 := Below.size hb1; (try simp only [ZZ] at z0 ⊢; skip); repeat' (first | (with_reducible first | exact BlR _ _ | assumption | refine BlA ?_ ?_ _ | refine BlD ?_ | refine BlN ?_ _ | refine BlS ?_ ?_ _ | refine BlT ?_ (BlM (by assumption) ?_)) | omega | (simp only [ZZ]; omega) | go_size))⟩
 | true =>
   rw [hv] at K
   by_cases hn0 : l.length = 0
   · have HQ : Hid (valR (s, l, m) = 0) := by
       obtain rfl := List.length_eq_zero_iff.1 hn0
       exact valR_nil
     clear hv HZ HR hok hA hB
     rw [hn0] at K hc hl ⊢
     clear hn0
     generalize valR (s, l, m) = q at *
     generalize m.length = n' at *
     go_enter Tryz.func94, Tryz.ntmps94
     go_wp2_with (first | (go_at_call 78; (with_reducible refine (K.out _ (hbA _)).mono ?_); rintro e w1 ⟨rfl, hb1⟩; have hb1z := Below.size hb1; (try simp only [ZZ] at hb1z); obtain ⟨hb1c0, hb1f0⟩ := bbo hb1 (w.heap.size) (by first | omega | (simp only [ZZ]; omega)); have hb1l0 : w.heap.size < (w1).heap.size := (by omega)) | fail)
     refine bodyPost_ret (v := (.tuple #[.bool false, .slice none 0 0, .slice (some ⟨w1.heap.size, 0, none⟩) 1 1])) (by simp [results, Tryz.results94, go_sem]) rfl ?_
     exact ⟨retP_zero (base := w.heap.size) hL HQ.out ⟨by rw [dig_one]; rfl, Nat.le_refl _, by rw [dig_one]; exact OwW.lit1 (x := 1) (by omega)⟩, (by have z0 := Below.size hb1; (try simp only [ZZ] at z0 ⊢; skip); repeat' (first | (with_reducible first | exact BlR _ _ | assumption | refine BlA ?_ ?_ _ | refine BlD ?_ | refine BlN ?_ _ | refine BlS ?_ ?_ _ | refine BlT ?_ (BlM (by assumption) ?_)) | omega | (simp only [ZZ]; omega) | go_size))⟩
   · have HR2 := Lib.hid (fun W hb => HR.out W hb hv hn0)
     clear hv HZ HR hok hA hB
     generalize valR (s, l, m) = q at *
     generalize l.length = n at *
     generalize m.length = n' at *
     have hz : ((n : Int) == 0) = false := by simpa using hn0
     go_enter Tryz.func94, Tryz.ntmps94
     go_wp2_with (first | (go_at_call 78; (with_reducible refine (K.out _ (hbA _)).mono ?_); rintro e w1 ⟨rfl, hb1⟩; have hb1z := Below.size hb1; (try simp only [ZZ] at hb1z); obtain ⟨hb1c0, hb1f0⟩ := bbo hb1 (w.heap.size) (by first | omega | (simp only [ZZ]; omega)); have hb1l0 : w.heap.size < (w1).heap.size := (by omega)) | fail)
     go_quiet (fail)
     go_wp2
     refine bodyPost_ret (v := (.tuple #[.bool s, .slice A n c, .slice B n' d])) (by simp [results, Tryz.results94, go_sem]) rfl ?_
     have hb9 := (hbA (.cells #[.bool s, .slice A n c, .slice B n' d] 56)).trans (hb1.mono (by simp))
     exact ⟨HR2.out _ (by have z0 := Below.size hb9; (try simp only [ZZ] at z0 ⊢; skip); repeat' (first | (with_reducible first | exact BlR _ _ | assumption | refine BlA ?_ ?_ _ | refine BlD ?_ | refine BlN ?_ _ | refine BlS ?_ ?_ _ | refine BlT ?_ (BlM (by assumption) ?_)) | omega | (simp only [ZZ]; omega) | go_size)), (by have z0 := Below.size hb9; (try simp only [ZZ] at z0 ⊢; skip); repeat' (first | (with_reducible first | exact BlR _ _ | assumption | refine BlA ?_ ?_ _ | refine BlD ?_ | refine BlN ?_ _ | refine BlS ?_ ?_ _ | refine BlT ?_ (BlM (by assumption) ?_)) | omega | (simp only [ZZ]; omega) | go_size))⟩
end Go.Proofs.YtoiopnmphbnjaaaGreatDoor
namespace Go.Proofs.YtoiopnmphbnjaaaGreatDoor
open Go.RowKit
set_option linter.unusedSimpArgs false
set_option linter.unusedVariables false
set_option maxRecDepth 20000
attribute [local irreducible] nv wp win plainB validR
/-! ## the reference's fractions: Neg, Mul, Div, Sign -/
theorem OwQ.alloc {w : World} {base : Nat} {v : Value} {q : Rat} (h : OwQ w base v q) (o : Obj) : OwQ (w.alloc o) base v q := h.below ((Below.refl _ _).alloc (Nat.le_refl _) o)
theorem rneg_any {w : World} {L : Nat} {v : Value} {q : Rat} (h : RdQ w L v q) (hL : 1 ≤ L) (hL2 : L ≤ 100000000000) :
   Calls Tryz.prog 79 #[v] w fun e w' => RetQ w.heap.size (-q) e w' ∧ Below w.heap.size w w' := by
 have K := Lib.hid (fun W (hb : Below w.heap.size w W) => rparts_any (h.below hb) hL hL2)
 obtain ⟨s0, A0, n0, c0, B0, m0, d0, rfl⟩ := h.form
 clear h
 go_enter Tryz.func79, Tryz.ntmps79
 (go_wp2_with fail; (with_reducible refine (K.out _ (by (skip); repeat' (first | (with_reducible first | exact BlR _ _ | assumption | refine BlA ?_ ?_ _ | refine BlD ?_ | refine BlN ?_ _ | refine BlS ?_ ?_ _ | refine BlT ?_ (BlM (by assumption) ?_)) | omega | (simp only [ZZ]; omega) | go_size))).mono ?_); rintro e w1 ⟨⟨s, A1, n1, c1, x, B1, m1, d1, y, rfl, rx, ry, hy, rfl, hn1, hm1, hx9, hy9⟩, hb1⟩; have hb1z := Below.size hb1; (try simp only [ZZ] at hb1z); obtain ⟨hb1c0, hb1f0⟩ := bbo hb1 (w.heap.size) (by first | omega | (simp only [ZZ]; omega)); obtain ⟨hb1c1, hb1f1⟩ := bbo hb1 (w.heap.size + 1) (by first | omega | (simp only [ZZ]; omega)))
 (go_wp2_with fail; (with_reducible refine (from_any (!s) rx.g ry.g (by omega) (by omega) hy).mono ?_); rintro e w2 ⟨⟨v, rfl, own⟩, hb2⟩; have hb2z := Below.size hb2; (try simp only [ZZ] at hb2z); obtain ⟨hb2c0, hb2f0⟩ := bbo hb2 (w.heap.size) (by first | omega | (simp only [ZZ]; omega)); obtain ⟨hb2c1, hb2f1⟩ := bbo hb2 (w.heap.size + 1) (by first | omega | (simp only [ZZ]; omega)))
 obtain ⟨s2, A2, n2, c2, B2, m2, d2, rfl⟩ := own.form
 (have olc := fun o i => below_at ((Below.refl w2.heap.size w2).alloc (Nat.le_refl _) o) (w.heap.size + 1) i (by omega)); (have olf := fun o i => below_fr ((Below.refl w2.heap.size w2).alloc (Nat.le_refl _) o) (w.heap.size + 1) i (by omega))
 go_wp2
 refine bodyPost_ret (v := rv s2 A2 n2 c2 B2 m2 d2) (by simp [results, Tryz.results79, go_sem, olc, hb2c1, hb1c1]) rfl ?_
 rw [← sq_not]
 exact ⟨⟨_, rfl, (own.alloc _).set3 (by omega) (by omega) _ _ _⟩, (by have z0 := Below.size hb1; have z1 := Below.size hb2; (try simp only [ZZ] at z0 z1 ⊢; skip); repeat' (first | (with_reducible first | exact BlR _ _ | assumption | refine BlA ?_ ?_ _ | refine BlD ?_ | refine BlN ?_ _ | refine BlS ?_ ?_ _ | refine BlT ?_ (BlM (by assumption) ?_)) | omega | (simp only [ZZ]; omega) | go_size))⟩
theorem rmulQ {w : World} {L : Nat} {v u : Value} {q r : Rat} (h : RdQ w L v q) (h' : RdQ w L u r) (hL : 1 ≤ L) (hL2 : L ≤ 100000000000) :
   Calls Tryz.prog 135 #[v, u] w fun e w' => RetQ w.heap.size (q * r) e w' ∧ Below w.heap.size w w' := by
 have K := Lib.hid (fun W (hb : Below w.heap.size w W) => rparts_any (h.below hb) hL hL2)
 have K' := Lib.hid (fun W (hb : Below w.heap.size w W) => rparts_any (h'.below hb) hL hL2)
 obtain ⟨s0, A0, n0, c0, B0, m0, d0, rfl⟩ := h.form
 obtain ⟨s9, A9, n9, c9, B9, m9, d9, rfl⟩ := h'.form
 clear h h'
 go_enter Tryz.func135, Tryz.ntmps135
 (go_wp2_with fail; (with_reducible refine (K.out _ (by (skip); repeat' (first | (with_reducible first | exact BlR _ _ | assumption | refine BlA ?_ ?_ _ | refine BlD ?_ | refine BlN ?_ _ | refine BlS ?_ ?_ _ | refine BlT ?_ (BlM (by assumption) ?_)) | omega | (simp only [ZZ]; omega) | go_size))).mono ?_); rintro e w1 ⟨⟨s, A1, n1, c1, x, B1, m1, d1, y, rfl, rx, ry, hy, rfl, hn1, hm1, hx9, hy9⟩, hb1⟩; have hb1z := Below.size hb1; (try simp only [ZZ] at hb1z); obtain ⟨hb1c0, hb1f0⟩ := bbo hb1 (w.heap.size) (by first | omega | (simp only [ZZ]; omega)); obtain ⟨hb1c1, hb1f1⟩ := bbo hb1 (w.heap.size + 1) (by first | omega | (simp only [ZZ]; omega)); obtain ⟨hb1c2, hb1f2⟩ := bbo hb1 (w.heap.size + 2) (by first | omega | (simp only [ZZ]; omega)))
 (go_wp2_with fail; (with_reducible refine (K'.out _ (by have z0 := Below.size hb1; (try simp only [ZZ] at z0 ⊢; skip); repeat' (first | (with_reducible first | exact BlR _ _ | assumption | refine BlA ?_ ?_ _ | refine BlD ?_ | refine BlN ?_ _ | refine BlS ?_ ?_ _ | refine BlT ?_ (BlM (by assumption) ?_)) | omega | (simp only [ZZ]; omega) | go_size))).mono ?_); rintro e w2 ⟨⟨s', A2, n2, c2, x', B2, m2, d2, y', rfl, rx', ry', hy', rfl, hn2, hm2, hx9', hy9'⟩, hb2⟩; have hb2z := Below.size hb2; (try simp only [ZZ] at hb2z); obtain ⟨hb2c0, hb2f0⟩ := bbo hb2 (w.heap.size) (by first | omega | (simp only [ZZ]; omega)); obtain ⟨hb2c1, hb2f1⟩ := bbo hb2 (w.heap.size + 1) (by first | omega | (simp only [ZZ]; omega)); obtain ⟨hb2c2, hb2f2⟩ := bbo hb2 (w.heap.size + 2) (by first | omega | (simp only [ZZ]; omega)))
 (go_wp2_with fail; (with_reducible refine (rmulN (rx.below hb2) rx' (by omega) (by omega)).mono ?_); rintro e w3 ⟨⟨A3, n3, c3, rfl, own3⟩, hb3⟩; have hb3z := Below.size hb3; (try simp only [ZZ] at hb3z); obtain ⟨hb3c0, hb3f0⟩ := bbo hb3 (w.heap.size) (by first | omega | (simp only [ZZ]; omega)); obtain ⟨hb3c1, hb3f1⟩ := bbo hb3 (w.heap.size + 1) (by first | omega | (simp only [ZZ]; omega)); obtain ⟨hb3c2, hb3f2⟩ := bbo hb3 (w.heap.size + 2) (by first | omega | (simp only [ZZ]; omega)))
 (go_wp2_with fail; (with_reducible refine (rmulN (ry.below (by have z0 := Below.size hb2; have z1 := Below.size hb3; (try simp only [ZZ] at z0 z1 ⊢; skip); repeat' (first | (with_reducible first | exact BlR _ _ | assumption | refine BlA ?_ ?_ _ | refine BlD ?_ | refine BlN ?_ _ | refine BlS ?_ ?_ _ | refine BlT ?_ (BlM (by assumption) ?_)) | omega | (simp only [ZZ]; omega) | go_size))) (ry'.below hb3) (by omega) (by omega)).mono ?_); rintro e w4 ⟨⟨A4, n4, c4, rfl, own4⟩, hb4⟩; have hb4z := Below.size hb4; (try simp only [ZZ] at hb4z); obtain ⟨hb4c0, hb4f0⟩ := bbo hb4 (w.heap.size) (by first | omega | (simp only [ZZ]; omega)); obtain ⟨hb4c1, hb4f1⟩ := bbo hb4 (w.heap.size + 1) (by first | omega | (simp only [ZZ]; omega)); obtain ⟨hb4c2, hb4f2⟩ := bbo hb4 (w.heap.size + 2) (by first | omega | (simp only [ZZ]; omega)))
 have l3 := RetP.len own3 hx9 hx9'
 have l4 := RetP.len own4 hy9 hy9'
 (go_wp2_with fail; (with_reducible refine (from_any (!(s == s')) (own3.rd.below hb4).g own4.rd.g (by omega) (by omega) (Nat.mul_ne_zero hy hy')).mono ?_); rintro e w5 ⟨⟨v, rfl, own⟩, hb5⟩; have hb5z := Below.size hb5; (try simp only [ZZ] at hb5z); obtain ⟨hb5c0, hb5f0⟩ := bbo hb5 (w.heap.size) (by first | omega | (simp only [ZZ]; omega)); obtain ⟨hb5c1, hb5f1⟩ := bbo hb5 (w.heap.size + 1) (by first | omega | (simp only [ZZ]; omega)); obtain ⟨hb5c2, hb5f2⟩ := bbo hb5 (w.heap.size + 2) (by first | omega | (simp only [ZZ]; omega)))
 obtain ⟨s2, A2, n2, c2, B2, m2, d2, rfl⟩ := own.form
 (have olc := fun o i => below_at ((Below.refl w5.heap.size w5).alloc (Nat.le_refl _) o) (w.heap.size + 1 + 1) i (by omega)); (have olf := fun o i => below_fr ((Below.refl w5.heap.size w5).alloc (Nat.le_refl _) o) (w.heap.size + 1 + 1) i (by omega))
 go_wp2
 refine bodyPost_ret (v := rv s2 A2 n2 c2 B2 m2 d2) (by simp [results, Tryz.results135, go_sem, olc, hb5c2, hb4c2, hb3c2, hb2c2, hb1c2]) rfl ?_
 rw [sq_mul _ _ _ _ _ _ hy hy']
 exact ⟨⟨_, rfl, (own.alloc _).set3 (by omega) (by omega) _ _ _⟩, (by have z0 := Below.size hb1; have z1 := Below.size hb2; have z2 := Below.size hb3; have z3 := Below.size hb4; have z4 := Below.size hb5; (try simp only [ZZ] at z0 z1 z2 z3 z4 ⊢; skip); repeat' (first | (with_reducible first | exact BlR _ _ | assumption | refine BlA ?_ ?_ _ | refine BlD ?_ | refine BlN ?_ _ | refine BlS ?_ ?_ _ | refine BlT ?_ (BlM (by assumption) ?_)) | omega | (simp only [ZZ]; omega) | go_size))⟩
theorem rsignQ {w : World} {L : Nat} {v : Value} {q : Rat} (h : RdQ w L v q) (hL : 1 ≤ L) (hL2 : L ≤ 100000000000) :
   Calls Tryz.prog 54 #[v] w fun e w' => e = .returned (.int .i64 (sgnQ q)) ∧ Below w.heap.size w w' := by
 have K := Lib.hid (fun W (hb : Below w.heap.size w W) => rparts_any (h.below hb) hL hL2)
 obtain ⟨s0, A0, n0, c0, B0, m0, d0, rfl⟩ := h.form
 clear h
 go_enter Tryz.func54, Tryz.ntmps54
 (go_wp2_with fail; (with_reducible refine (K.out _ (by (skip); repeat' (first | (with_reducible first | exact BlR _ _ | assumption | refine BlA ?_ ?_ _ | refine BlD ?_ | refine BlN ?_ _ | refine BlS ?_ ?_ _ | refine BlT ?_ (BlM (by assumption) ?_)) | omega | (simp only [ZZ]; omega) | go_size))).mono ?_); rintro e w1 ⟨⟨s, A1, n1, c1, x, B1, m1, d1, y, rfl, rx, ry, hy, rfl, hn1, hm1, hx9, hy9⟩, hb1⟩; have hb1z := Below.size hb1; (try simp only [ZZ] at hb1z); obtain ⟨hb1c0, hb1f0⟩ := bbo hb1 (w.heap.size) (by first | omega | (simp only [ZZ]; omega)))
 by_cases hx : x = 0
 · have hn : n1 = 0 := rx.zero.2 hx
   subst hx hn
   go_wp2
   go_ret
   rw [sq_zero]
   exact ⟨rfl, (by have z0 := Below.size hb1; (try simp only [ZZ] at z0 ⊢; skip); repeat' (first | (with_reducible first | exact BlR _ _ | assumption | refine BlA ?_ ?_ _ | refine BlD ?_ | refine BlN ?_ _ | refine BlS ?_ ?_ _ | refine BlT ?_ (BlM (by assumption) ?_)) | omega | (simp only [ZZ]; omega) | go_size))⟩
 · have hz := rx.pos hx
   have h0 : sq s x y ≠ 0 := sq_ne hx hy
   have h1 := sq_neg (s := s) hx hy
   have HS : Hid (sgnQ (sq s x y) = if s then -1 else 1) := by
     show sgnQ _ = _
     unfold sgnQ
     rw [if_neg h0]
     cases s <;> simp at h1 <;> simp [h1]
   clear h0 h1
   cases s
   all_goals
     go_wp2
     go_ret
     rw [HS.out]
     exact ⟨rfl, (by have z0 := Below.size hb1; (try simp only [ZZ] at z0 ⊢; skip); repeat' (first | (with_reducible first | exact BlR _ _ | assumption | refine BlA ?_ ?_ _ | refine BlD ?_ | refine BlN ?_ _ | refine BlS ?_ ?_ _ | refine BlT ?_ (BlM (by assumption) ?_)) | omega | (simp only [ZZ]; omega) | go_size))⟩
end Go.Proofs.YtoiopnmphbnjaaaGreatDoor
