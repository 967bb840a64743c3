/- Contracts and lemmas for the given statements. Conditions: those alone that each names. -/
import Derived.Test.YtoiopnmphbnjaaaGreatDoorJRatA
import Derived.Test.YtoiopnmphbnjaaaGreatDoorJRefE
import Derived.Deep.RegionHeld3
set_option maxHeartbeats 1000000
namespace Go.Proofs.YtoiopnmphbnjaaaGreatDoor
open Go.RowKit
set_option linter.unusedSimpArgs false
set_option linter.unusedVariables false
set_option maxRecDepth 20000
attribute [local irreducible] nv wp win plainB validR
/-! ## numbers in memory, in their shortest form -/
def RdN (w : World) (A : Option Addr) (n c x : Nat) : Prop := n = (dig x).length ∧ n ≤ c ∧ RdW w w.heap.size A (dig x)
def OwN (w : World) (base : Nat) (A : Option Addr) (n c x : Nat) : Prop := n = (dig x).length ∧ n ≤ c ∧ OwW w base A c (dig x)
section
variable {w w' : World} {base base' : Nat} {A : Option Addr} {n c x : Nat}
theorem OwN.rd (h : OwN w base A n c x) : RdN w A n c x := ⟨h.1, h.2.1, h.2.2.rd⟩
theorem OwN.mk' (h : OwW w base A c (dig x)) : OwN w base A (dig x).length c x := ⟨rfl, h.cap, h⟩
theorem OwN.below (h : OwN w base A n c x) (hb : Below w.heap.size w w') : OwN w' base A n c x := ⟨h.1, h.2.1, h.2.2.below hb⟩
theorem OwN.base_ (h : OwN w base A n c x) (hb : base' ≤ base) : OwN w base' A n c x := ⟨h.1, h.2.1, h.2.2.base_ hb⟩
theorem RdN.below (h : RdN w A n c x) (hb : Below w.heap.size w w') : RdN w' A n c x := ⟨h.1, h.2.1, h.2.2.on hb hb.size⟩
theorem RdN.zero (h : RdN w A n c x) : n = 0 ↔ x = 0 := by rw [h.1]; exact dig_len_zero
theorem OwN.nil_ (w : World) (base : Nat) : OwN w base none 0 0 0 := ⟨by rw [dig_zero]; rfl, Nat.le_refl _, by rw [dig_zero]; exact OwW.nil_ w base⟩
end
theorem OwW.set_ {w : World} {base : Nat} {A : Option Addr} {c : Nat} {l : List Nat} (h : OwW w base A c l) {p : Addr} (hp : p.block < base) (u : Value) : OwW (w.setCell p u) base A c l := by
 refine World.ownsRow.kept h (row := some p.block) ⟨rfl, rfl, rfl, by simp, fun k _ hk => Below.heap_setCell w p u k (fun e => hk (by rw [e]))⟩ (.inr ?_)
 intro e
 have := (World.ownsRow.lt h _ e).1
 omega
theorem OwN.set_ {w : World} {base : Nat} {A : Option Addr} {n c x : Nat} (h : OwN w base A n c x) {p : Addr} (hp : p.block < base) (u : Value) : OwN (w.setCell p u) base A n c x := ⟨h.1, h.2.1, h.2.2.set_ hp u⟩
/-- a number that a call makes -/
def RetN (base x : Nat) (e : Ending) (w' : World) : Prop := ∃ A n c, e = .returned (.slice A n c) ∧ OwN w' base A n c x
theorem RetN.mk' {base x : Nat} {e : Ending} {w' : World} (h : ∃ A' c', e = .returned (.slice A' (dig x).length c') ∧ OwW w' base A' c' (dig x)) : RetN base x e w' := by
 obtain ⟨A', c', rfl, h⟩ := h
 exact ⟨_, _, _, rfl, OwN.mk' h⟩
theorem ret3 {e : Ending} {w w' : World} {base x : Nat} (h : ∃ A' c', e = .returned (.slice A' (dig x).length c') ∧ OwW w' base A' c' (dig x) ∧ Below base w w') : RetN base x e w' ∧ Below base w w' := by
 obtain ⟨A', c', h1, h2, h3⟩ := h
 exact ⟨RetN.mk' ⟨A', c', h1, h2⟩, h3⟩
section
variable {A B : Option Addr} {n c n' c' x y : Nat} {w : World}
theorem mulN (h : RdN w A n c x) (h' : RdN w B n' c' y) (hn : n ≤ 274877906900) (hn' : n' ≤ 274877906900) :
   Calls Tryz.prog 69 #[.slice A n c, .slice B n' c'] w fun e w' => RetN w.heap.size (x * y) e w' ∧ Below w.heap.size w w' := by
 have := mul_any A B (dig x) (dig y) n c n' c' w h.1.symm h'.1.symm (by omega) (by omega) (dig_W32 x) (dig_W32 y) h.2.2 h'.2.2
 rw [nv_dig, nv_dig] at this
 exact this.mono fun _ _ => ret3
theorem rmulN (h : RdN w A n c x) (h' : RdN w B n' c' y) (hn : n ≤ 274877906900) (hn' : n' ≤ 274877906900) :
   Calls Tryz.prog 95 #[.slice A n c, .slice B n' c'] w fun e w' => RetN w.heap.size (x * y) e w' ∧ Below w.heap.size w w' := by
 have := rmul_any A B (dig x) (dig y) n c n' c' w h.1.symm h'.1.symm (by omega) (by omega) (dig_W32 x) (dig_W32 y) h.2.2 h'.2.2
 rw [nv_dig, nv_dig] at this
 exact this.mono fun _ _ => ret3
theorem addN (h : RdN w A n c x) (h' : RdN w B n' c' y) (hn : n ≤ 274877906900) (hn' : n' ≤ 274877906900) :
   Calls Tryz.prog 71 #[.slice A n c, .slice B n' c'] w fun e w' => RetN w.heap.size (x + y) e w' ∧ Below w.heap.size w w' := by
 have := add_any A B (dig x) (dig y) n c n' c' w h.1.symm h'.1.symm (by omega) (by omega) (dig_W32 x) (dig_W32 y) h.2.2 h'.2.2
 rw [nv_dig, nv_dig] at this
 exact this.mono fun _ _ => ret3
theorem raddN (h : RdN w A n c x) (h' : RdN w B n' c' y) (hn : n ≤ 274877906900) (hn' : n' ≤ 274877906900) :
   Calls Tryz.prog 97 #[.slice A n c, .slice B n' c'] w fun e w' => RetN w.heap.size (x + y) e w' ∧ Below w.heap.size w w' := by
 have := radd_any A B (dig x) (dig y) n c n' c' w h.1.symm h'.1.symm (by omega) (by omega) (dig_W32 x) (dig_W32 y) h.2.2 h'.2.2
 rw [nv_dig, nv_dig] at this
 exact this.mono fun _ _ => ret3
theorem gcdN (h : RdN w A n c x) (h' : RdN w B n' c' y) (hn : n ≤ 274877906900) (hn' : n' ≤ 274877906900) :
   Calls Tryz.prog 103 #[.slice A n c, .slice B n' c'] w fun e w' => RetN w.heap.size (x.gcd y) e w' ∧ Below w.heap.size w w' := by
 have := gcd_any A B (dig x) (dig y) n c n' c' w h.1.symm h'.1.symm (by omega) (by omega) h.2.1 h'.2.1 (dig_W32 x) (dig_W32 y) h.2.2 h'.2.2
 rw [nv_dig, nv_dig] at this
 exact this.mono fun _ _ => ret3
theorem cmpNN (h : RdN w A n c x) (h' : RdN w B n' c' y) (hn : n ≤ 274877906900) (hn' : n' ≤ 274877906900) :
   Calls Tryz.prog 72 #[.slice A n c, .slice B n' c'] w fun e w' => e = .returned (.int .i64 (cmpN x y)) ∧ Below w.heap.size w w' := by
 have := cmp_any A B (dig x) (dig y) n c n' c' w h.1.symm h'.1.symm (by omega) (by omega) h.2.1 h'.2.1 (dig_W32 x) (dig_W32 y) h.2.2 h'.2.2
 rwa [nv_dig, nv_dig] at this
theorem bitsN (h : RdN w A n c x) (hn : n ≤ 274877906900) :
   Calls Tryz.prog 114 #[.slice A n c] w fun e w' => e = .returned (.int .i64 (bl x : Nat)) ∧ w = w' := by
 have := bits_any A (dig x) n c w h.1.symm (by omega) (dig_W32 x) h.2.2
 rwa [nv_dig] at this
theorem rbitsN (h : RdN w A n c x) (hn : n ≤ 274877906900) :
   Calls Tryz.prog 117 #[.slice A n c] w fun e w' => e = .returned (.int .i64 (bl x : Nat)) ∧ w = w' := by
 have := rbits_any A (dig x) n c w h.1.symm (by omega) (dig_W32 x) h.2.2
 rwa [nv_dig] at this
end
/-! ## fractions in memory -/
/-- a fraction, as it lies there -/
def RdR (w : World) (v : Value) (r : Rw) : Prop :=
 ∃ A c B d, v = rv r.1 A r.2.1.length c B r.2.2.length d ∧ r.2.1.length ≤ c ∧ r.2.2.length ≤ d ∧ okR r ∧ RdW w w.heap.size A r.2.1 ∧ RdW w w.heap.size B r.2.2
/-- a fraction that counts as the number q, of at most L words -/
def RdQ (w : World) (L : Nat) (v : Value) (q : Rat) : Prop := ∃ r, RdR w v r ∧ valR r = q ∧ r.2.1.length ≤ L ∧ r.2.2.length ≤ L
/-- the valid form of q, its words the call's own -/
def OwQ (w : World) (base : Nat) (v : Value) (q : Rat) : Prop :=
 ∃ A c B d, v = rv (canR q).1 A (canR q).2.1.length c B (canR q).2.2.length d ∧ OwW w base A c (canR q).2.1 ∧ OwW w base B d (canR q).2.2
section
variable {w w' : World} {base base' L M : Nat} {v : Value} {q : Rat} {r : Rw}
theorem RdR.below (h : RdR w v r) (hb : Below w.heap.size w w') : RdR w' v r := by
 obtain ⟨A, c, B, d, h1, h2, h3, h4, h5, h6⟩ := h
 exact ⟨A, c, B, d, h1, h2, h3, h4, h5.on hb hb.size, h6.on hb hb.size⟩
theorem RdQ.below (h : RdQ w L v q) (hb : Below w.heap.size w w') : RdQ w' L v q := by
 obtain ⟨r, h1, h2⟩ := h
 exact ⟨r, h1.below hb, h2⟩
theorem RdQ.sz (h : RdQ w L v q) (hL : 1 ≤ L) : Sz L q := by
 obtain ⟨r, ⟨_, _, _, _, _, _, _, hok, _⟩, h2, h3, h4⟩ := h
 rw [← h2]
 exact Sz_valR hok hL h3 h4
theorem OwQ.rd (h : OwQ w base v q) : RdR w v (canR q) := by
 obtain ⟨A, c, B, d, h1, h2, h3⟩ := h
 exact ⟨A, c, B, d, h1, h2.cap, h3.cap, canR_ok q, h2.rd, h3.rd⟩
theorem OwQ.rq (h : OwQ w base v q) (hs : Sz L q) : RdQ w L v q := ⟨_, h.rd, valR_canR q, (Sz_canR hs).1, (Sz_canR hs).2⟩
theorem OwQ.below (h : OwQ w base v q) (hb : Below w.heap.size w w') : OwQ w' base v q := by
 obtain ⟨A, c, B, d, h1, h2, h3⟩ := h
 exact ⟨A, c, B, d, h1, h2.below hb, h3.below hb⟩
theorem OwQ.base_ (h : OwQ w base v q) (hb : base' ≤ base) : OwQ w base' v q := by
 obtain ⟨A, c, B, d, h1, h2, h3⟩ := h
 exact ⟨A, c, B, d, h1, h2.base_ hb, h3.base_ hb⟩
end
theorem OwQ.zero (w : World) (base : Nat) : OwQ w base (rv false none 0 0 none 0 0) 0 := by
 refine ⟨none, 0, none, 0, ?_, ?_, ?_⟩
 · rw [canR_zero]; rfl
 · rw [canR_zero]; exact OwW.nil_ w base
 · rw [canR_zero]; exact OwW.nil_ w base
/-- the number that a call makes -/
def RetQ (base : Nat) (q : Rat) (e : Ending) (w' : World) : Prop := ∃ v, e = .returned v ∧ OwQ w' base v q
/-- what parts returns -/
def RetP (L : Nat) (q : Rat) (e : Ending) (w' : World) : Prop :=
 ∃ s A n c x B n' d y, e = .returned (.tuple #[.bool s, .slice A n c, .slice B n' d]) ∧ RdN w' A n c x ∧ RdN w' B n' d y ∧ y ≠ 0 ∧ q = sq s x y ∧ n ≤ L ∧ n' ≤ L ∧ x < wp L ∧ y < wp L
end Go.Proofs.YtoiopnmphbnjaaaGreatDoor
namespace Go.Proofs.YtoiopnmphbnjaaaGreatDoor
open Go.RowKit
set_option linter.unusedSimpArgs false
set_option linter.unusedVariables false
set_option maxRecDepth 20000
attribute [local irreducible] nv wp win plainB validR
/-! ## package rational: parts, form -/
/-- what a division of numbers returns, with the third value z -/
def RetD (z : Value) (base a b : Nat) (e : Ending) (w' : World) : Prop :=
 ∃ A1 n1 c1 A2 n2 c2, e = .returned (.tuple #[.slice A1 n1 c1, .slice A2 n2 c2, z]) ∧ OwN w' base A1 n1 c1 (a / b) ∧ OwN w' base A2 n2 c2 (a % b)
section
variable {A B : Option Addr} {n c n' c' x y : Nat} {w : World}
theorem divN (h : RdN w A n c x) (h' : RdN w B n' c' y) (hn : n ≤ 274877906900) (hn' : n' ≤ 274877906900) (hy : y ≠ 0) :
   Calls Tryz.prog 115 #[.slice A n c, .slice B n' c'] w fun e w' => RetD .nilIface w.heap.size x y e w' ∧ Below w.heap.size w w' := by
 have := div_any A B (dig x) (dig y) n c n' c' w h.1.symm h'.1.symm (by omega) (by omega) h.2.1 h'.2.1 (dig_W32 x) (dig_W32 y) h.2.2 h'.2.2 (by rw [nv_dig]; exact hy)
 rw [nv_dig, nv_dig] at this
 refine this.mono ?_
 rintro e w' ⟨⟨A1, c1, A2, c2, rfl, h1, h2⟩, h3⟩
 exact ⟨⟨_, _, _, _, _, _, rfl, OwN.mk' h1, OwN.mk' h2⟩, h3⟩
end
theorem oneN (w : World) : Calls Tryz.prog 104 #[] w fun e w' => RetN w.heap.size 1 e w' ∧ Below w.heap.size w w' := by
 refine (one_any w).mono ?_
 rintro e w' ⟨A', rfl, h, hb⟩
 exact ⟨⟨A', 1, 1, rfl, by rw [dig_one]; rfl, Nat.le_refl _, by rw [dig_one]; exact h⟩, hb⟩
theorem OwQ.mk' {w : World} {base : Nat} {s : Bool} {A B : Option Addr} {n c n' d x y : Nat} (hx : x ≠ 0) (hy : y ≠ 0) (h1 : OwN w base A n c (x / x.gcd y)) (h2 : OwN w base B n' d (y / x.gcd y)) : OwQ w base (rv s A n c B n' d) (sq s x y) := by
 obtain ⟨e1, _, o1⟩ := h1
 obtain ⟨e2, _, o2⟩ := h2
 subst e1 e2
 unfold OwQ
 rw [canR_sq s hx hy]
 exact ⟨A, c, B, d, rfl, o1, o2⟩
theorem gcd_len {x y : Nat} (hy : y ≠ 0) : (dig (x.gcd y)).length ≤ (dig y).length := dig_len_mono (Nat.gcd_le_right x (by omega))
theorem form_any (s : Bool) {A B : Option Addr} {n c n' d x y : Nat} {w : World} (h : RdN w A n c x) (h' : RdN w B n' d y) (hn : n ≤ 274877906900) (hn' : n' ≤ 274877906900) (hy : y ≠ 0) :
   Calls Tryz.prog 70 #[.bool s, .slice A n c, .slice B n' d] w fun e w' => RetQ w.heap.size (sq s x y) e w' ∧ Below w.heap.size w w' := by
 have K1 := Lib.hid (fun W (hb : Below w.heap.size w W) => bitsN (h.below hb) hn)
 have K2 := Lib.hid (fun W (hb : Below w.heap.size w W) => gcdN (h.below hb) (h'.below hb) hn hn')
 have hbA : ∀ o, Below w.heap.size w (w.alloc o) := fun o => (Below.refl _ _).alloc (Nat.le_refl _) o
 by_cases hx : x = 0
 · subst hx
   rw [sq_zero]
   have hb0 : bl 0 = 0 := rfl
   rw [hb0] at K1
   go_enter Tryz.func70, Tryz.ntmps70
   go_wp2_with (first | (go_at_call 114; (with_reducible refine (K1.out _ (hbA _)).mono ?_); rintro e _ ⟨rfl, rfl⟩) | fail)
   refine bodyPost_ret (v := rv false none 0 0 none 0 0) (by simp [results, Tryz.results70, go_sem]) rfl ?_
   exact ⟨⟨_, rfl, OwQ.zero _ _⟩, (by (skip); repeat' (first | (with_reducible first | exact BlR _ _ | assumption | refine BlA ?_ ?_ _ | refine BlD ?_ | refine BlN ?_ _ | refine BlS ?_ ?_ _ | refine BlT ?_ (BlM (by assumption) ?_)) | omega | (simp only [ZZ]; omega) | go_size))⟩
 · have hb0 : ((bl x : Nat) : Int) ≠ 0 := by
     have := bl_eq_zero (n := x)
     omega
   have hg : x.gcd y ≠ 0 := by have := Nat.gcd_pos_of_pos_right x (show 0 < y by omega); omega
   have hgl := gcd_len (x := x) hy
   generalize bl x = b at *
   have hb1 : ((b : Int) == 0) = false := by simpa using hb0
   go_enter Tryz.func70, Tryz.ntmps70
   go_wp2_with (first | (go_at_call 114; (with_reducible refine (K1.out _ (hbA _)).mono ?_); rintro e _ ⟨rfl, rfl⟩) | fail)
   (with_reducible refine (K2.out _ (hbA _)).mono ?_)
   rintro e w1 ⟨⟨A1, n1, c1, rfl, own1⟩, hb1⟩
   have hn1 : n1 ≤ 274877906900 := by have := own1.1; have := h'.1; omega
   have hb1z := Below.size hb1
   have hb1c := fun o => below_at hb1 w.heap.size o (by simp only [World.size_alloc]; omega)
   have hb1f := fun o => below_fr hb1 w.heap.size o (by simp only [World.size_alloc]; omega)
   have hw1 := Lib.hid ((hbA _).trans (hb1.mono (by simp)))
   simp only [World.size_alloc] at hb1z
   (go_wp2_with fail; (with_reducible refine (divN (h.below hw1.out) own1.rd hn hn1 hg).mono ?_); rintro e w2 ⟨⟨A3, n3, c3, A4, n4, c4, rfl, own3, own4⟩, hb2⟩; have hb2z := Below.size hb2; (try simp only [ZZ] at hb2z); obtain ⟨hb2c0, hb2f0⟩ := bbo hb2 (w.heap.size) (by first | omega | (simp only [ZZ]; omega)))
   (go_wp2_with fail; (with_reducible refine (divN (h'.below (hw1.out.trans (hb2.mono (by omega)))) (own1.rd.below hb2) hn' hn1 hg).mono ?_); rintro e w3 ⟨⟨A5, n5, c5, A6, n6, c6, rfl, own5, own6⟩, hb3⟩; have hb3z := Below.size hb3; (try simp only [ZZ] at hb3z); obtain ⟨hb3c0, hb3f0⟩ := bbo hb3 (w.heap.size) (by first | omega | (simp only [ZZ]; omega)))
   go_wp2
   refine bodyPost_ret (v := rv s A3 n3 c3 A5 n5 c5) (by simp [results, Tryz.results70, go_sem, hb3c0, hb2c0, hb1c]) rfl ?_
   have o3 := own3.below hb3
   exact ⟨⟨_, rfl, OwQ.mk' hx hy ((((o3.set_ (by show w.heap.size < _; omega) _).set_ (by show w.heap.size < _; omega) _).set_ (by show w.heap.size < _; omega) _).base_ (by omega)) ((((own5.set_ (by show w.heap.size < _; omega) _).set_ (by show w.heap.size < _; omega) _).set_ (by show w.heap.size < _; omega) _).base_ (by omega))⟩, (by have z0 := Below.size hw1.out; have z1 := Below.size hb2; have z2 := Below.size hb3; (try simp only [ZZ] at z0 z1 z2 ⊢; skip); repeat' (first | (with_reducible first | exact BlR _ _ | assumption | refine BlA ?_ ?_ _ | refine BlD ?_ | refine BlN ?_ _ | refine BlS ?_ ?_ _ | refine BlT ?_ (BlM (by assumption) ?_)) | omega | (simp only [ZZ]; omega) | go_size))⟩
end Go.Proofs.YtoiopnmphbnjaaaGreatDoor
namespace Go.Proofs.YtoiopnmphbnjaaaGreatDoor
open Go.RowKit
set_option linter.unusedSimpArgs false
set_option linter.unusedVariables false
set_option maxRecDepth 20000
attribute [local irreducible] nv wp win plainB validR
/-! ## package rational: parts -/
theorem retP_zero {L : Nat} {q : Rat} {w' : World} {base : Nat} {A : Option Addr} {n c : Nat} (hL : 1 ≤ L) (hq : q = 0) (h : OwN w' base A n c 1) : RetP L q (.returned (.tuple #[.bool false, .slice none 0 0, .slice A n c])) w' := by
 have h1 : (1 : Nat) < wp 1 := by rw [wp_one]; omega
 refine ⟨false, none, 0, 0, 0, A, n, c, 1, rfl, (OwN.nil_ w' 0).rd, h.rd, by omega, by rw [hq, sq_zero], by omega, ?_, wp_pos _, Nat.lt_of_lt_of_le h1 (wp_le hL)⟩
 have := h.1
 rw [dig_one] at this
 simp at this
 omega
/-- a valid fraction with a numerator -/
theorem retP_num {L : Nat} {s : Bool} {l m : List Nat} {w' : World} {A B : Option Addr} {c d : Nat} (hok : okR (s, l, m)) (hv : validR (s, l, m) = true) (hne : l.length ≠ 0) (hc : l.length ≤ c) (hd : m.length ≤ d) (hl : l.length ≤ L) (hm : m.length ≤ L)
   (hA : RdW w' w'.heap.size A l) (hB : RdW w' w'.heap.size B m) : RetP L (valR (s, l, m)) (.returned (.tuple #[.bool s, .slice A l.length c, .slice B m.length d])) w' := by
 have HP := ptsR_pts hok
 have e : ptsR (s, l, m) = (s, l, m) := by
   unfold ptsR
   have h1 : l.isEmpty = false := by cases l; exact absurd rfl hne; rfl
   rw [hv, h1]; rfl
 rw [e] at HP
 have k1 := dig_nv HP.can1
 have k2 := dig_nv HP.can2
 simp only at k1 k2
 refine ⟨s, A, l.length, c, nv l, B, m.length, d, nv m, rfl, ⟨by rw [k1], hc, by rw [k1]; exact hA⟩, ⟨by rw [k2], hd, by rw [k2]; exact hB⟩, HP.den, HP.val, hl, hm, Nat.lt_of_lt_of_le (nv_lt hok.1) (wp_le hl), Nat.lt_of_lt_of_le (nv_lt hok.2) (wp_le hm)⟩
theorem valR_nil {s : Bool} {m : List Nat} : valR (s, [], m) = 0 := by
 unfold valR; split
 · rw [nv_nil, sq_zero]
 · rfl
theorem RdR.form {w : World} {v : Value} {r : Rw} (h : RdR w v r) : ∃ s A n c B m d, v = rv s A n c B m d := by
 obtain ⟨A, c, B, d, h, _⟩ := h
 exact ⟨_, _, _, _, _, _, _, h⟩
theorem RdQ.form {w : World} {L : Nat} {v : Value} {q : Rat} (h : RdQ w L v q) : ∃ s A n c B m d, v = rv s A n c B m d := by
 obtain ⟨r, h, _⟩ := h
 exact h.form
theorem OwQ.form {w : World} {base : Nat} {v : Value} {q : Rat} (h : OwQ w base v q) : ∃ s A n c B m d, v = rv s A n c B m d := by
 obtain ⟨A, c, B, d, h, _⟩ := h
 exact ⟨_, _, _, _, _, _, _, h⟩
theorem OwQ.set_ {w : World} {base : Nat} {v : Value} {q : Rat} (h : OwQ w base v q) {p : Addr} (hp : p.block < base) (u : Value) : OwQ (w.setCell p u) base v q := by
 obtain ⟨A, c, B, d, h1, h2, h3⟩ := h
 exact ⟨A, c, B, d, h1, h2.set_ hp u, h3.set_ hp u⟩
/-- behind the three stores of a fraction -/
theorem OwQ.set3 {w : World} {base base' g : Nat} {v : Value} {q : Rat} (h : OwQ w base v q) (hg : g < base) (hb : base' ≤ base) (u0 u1 u2 : Value) : OwQ (((w.setCell ⟨g, 0, none⟩ u0).setCell ⟨g, 1, none⟩ u1).setCell ⟨g, 2, none⟩ u2) base' v q :=
 (((h.set_ hg u0).set_ hg u1).set_ hg u2).base_ hb
theorem RetP.len {L : Nat} {x y : Nat} {w : World} {A : Option Addr} {n c : Nat} {M : Nat} (h : OwN w L A n c (x * y)) (hx : x < wp M) (hy : y < wp M) : n ≤ M + M := by
 rw [h.1]; exact dig_length_le (wp_mul_lt hx hy)
theorem parts_any {w : World} {L : Nat} {v : Value} {q : Rat} (h : RdQ w L v q) (hL : 1 ≤ L) (hL2 : L ≤ 100000000000) :
   Calls Tryz.prog 68 #[v] w fun e w' => RetP L q e w' ∧ Below w.heap.size w w' := by
 obtain ⟨⟨s, l, m⟩, ⟨A, c, B, d, rfl, hc, hd, hok, hA, hB⟩, rfl, hl, hm⟩ := h
 simp only at hc hd hA hB hl hm ⊢
 have hbA : ∀ o, Below w.heap.size w (w.alloc o) := fun o => (Below.refl _ _).alloc (Nat.le_refl _) o
 have K := Lib.hid (fun W (hb : Below w.heap.size w W) => valid_any s A B l m l.length c m.length d W rfl rfl (by omega) (by omega) hc hd hok.1 hok.2 (hA.on hb hb.size) (hB.on hb hb.size))
 have HR := Lib.hid (fun W (hb : Below w.heap.size w W) hv hne => retP_num (L := L) (w' := W) hok hv hne hc hd hl hm (hA.on hb hb.size) (hB.on hb hb.size))
 have HZ := Lib.hid (valR_of_not (r := (s, l, m)))
 cases hv : validR (s, l, m) with
 | false =>
   rw [hv] at K
   have HQ := Lib.hid (HZ.out hv)
   clear hv HZ HR hok hA hB
   generalize valR (s, l, m) = q at *
   generalize l.length = n at *
   generalize m.length = n' at *
   go_enter Tryz.func68, Tryz.ntmps68
   go_wp2_with (first | (go_at_call 58; (with_reducible refine (K.out _ (hbA _)).mono ?_); rintro e w1 ⟨rfl, hb1⟩; have hb1z := Below.size hb1; (try simp only [ZZ] at hb1z); obtain ⟨hb1c0, hb1f0⟩ := bbo hb1 (w.heap.size) (by first | omega | (simp only [ZZ]; omega)); have hb1l0 : w.heap.size < (w1).heap.size := (by omega)) | fail)
   (with_reducible refine (oneN _).mono ?_)
   rintro e w2 ⟨⟨A2, n2, c2, rfl, own2⟩, hb2⟩
   go_wp2
   refine bodyPost_ret (v := (.tuple #[.bool false, .slice none 0 0, .slice A2 n2 c2])) (by simp [results, Tryz.results68, go_sem]) rfl ?_
   exact ⟨retP_zero hL HQ.out own2, (by have z0 := Below.size hb1; have z1 := Below.size hb2; (try simp only [ZZ] at z0 z1 ⊢; skip); repeat' (first | (with_reducible first | exact BlR _ _ | assumption | refine BlA ?_ ?_ _ | refine BlD ?_ | refine BlN ?_ _ | refine BlS ?_ ?_ _ | refine BlT ?_ (BlM (by assumption) ?_)) | omega | (simp only [ZZ]; omega) | go_size))⟩
 | true =>
   rw [hv] at K
   by_cases hn0 : l.length = 0
   · have HQ : Hid (valR (s, l, m) = 0) := by
       obtain rfl := List.length_eq_zero_iff.1 hn0
       exact valR_nil
     clear hv HZ HR hok hA hB
     rw [hn0] at K hc hl ⊢
     clear hn0
     generalize valR (s, l, m) = q at *
     generalize m.length = n' at *
     go_enter Tryz.func68, Tryz.ntmps68
     go_wp2_with (first | (go_at_call 58; (with_reducible refine (K.out _ (hbA _)).mono ?_); rintro e w1 ⟨rfl, hb1⟩; have hb1z := Below.size hb1; (try simp only [ZZ] at hb1z); obtain ⟨hb1c0, hb1f0⟩ := bbo hb1 (w.heap.size) (by first | omega | (simp only [ZZ]; omega)); have hb1l0 : w.heap.size < (w1).heap.size := (by omega)) | fail)
     (with_reducible refine (oneN _).mono ?_)
     rintro e w2 ⟨⟨A2, n2, c2, rfl, own2⟩, hb2⟩
     go_wp2
     refine bodyPost_ret (v := (.tuple #[.bool false, .slice none 0 0, .slice A2 n2 c2])) (by simp [results, Tryz.results68, go_sem]) rfl ?_
     exact ⟨retP_zero hL HQ.out own2, (by have z0 := Below.size hb1; have z1 := Below.size hb2; (try simp only [ZZ] at z0 z1 ⊢; skip); repeat' (first | (with_reducible first | exact BlR _ _ | assumption | refine BlA ?_ ?_ _ | refine BlD ?_ | refine BlN ?_ _ | refine BlS ?_ ?_ _ | refine BlT ?_ (BlM (by assumption) ?_)) | omega | (simp only [ZZ]; omega) | go_size))⟩
   · have HR2 := Lib.hid (fun W hb => HR.out W hb hv hn0)
     clear hv HZ HR hok hA hB
     generalize valR (s, l, m) = q at *
     generalize l.length = n at *
     generalize m.length = n' at *
     have hz : ((n : Int) == 0) = false := by simpa using hn0
     go_enter Tryz.func68, Tryz.ntmps68
     go_wp2_with (first | (go_at_call 58; (with_reducible refine (K.out _ (hbA _)).mono ?_); rintro e w1 ⟨rfl, hb1⟩; have hb1z := Below.size hb1; (try simp only [ZZ] at hb1z); obtain ⟨hb1c0, hb1f0⟩ := bbo hb1 (w.heap.size) (by first | omega | (simp only [ZZ]; omega)); have hb1l0 : w.heap.size < (w1).heap.size := (by omega)) | fail)
     go_quiet (fail)
     go_wp2
     refine bodyPost_ret (v := (.tuple #[.bool s, .slice A n c, .slice B n' d])) (by simp [results, Tryz.results68, go_sem]) rfl ?_
     have hb9 := (hbA (.cells #[.bool s, .slice A n c, .slice B n' d] 56)).trans (hb1.mono (by simp))
     exact ⟨HR2.out _ (by have z0 := Below.size hb9; (try simp only [ZZ] at z0 ⊢; skip); repeat' (first | (with_reducible first | exact BlR _ _ | assumption | refine BlA ?_ ?_ _ | refine BlD ?_ | refine BlN ?_ _ | refine BlS ?_ ?_ _ | refine BlT ?_ (BlM (by assumption) ?_)) | omega | (simp only [ZZ]; omega) | go_size)), (by have z0 := Below.size hb9; (try simp only [ZZ] at z0 ⊢; skip); repeat' (first | (with_reducible first | exact BlR _ _ | assumption | refine BlA ?_ ?_ _ | refine BlD ?_ | refine BlN ?_ _ | refine BlS ?_ ?_ _ | refine BlT ?_ (BlM (by assumption) ?_)) | omega | (simp only [ZZ]; omega) | go_size))⟩
end Go.Proofs.YtoiopnmphbnjaaaGreatDoor
namespace Go.Proofs.YtoiopnmphbnjaaaGreatDoor
open Go.RowKit
set_option linter.unusedSimpArgs false
set_option linter.unusedVariables false
set_option maxRecDepth 20000
attribute [local irreducible] nv wp win plainB validR
/-! ## package rational: Neg, Mul, Div, Sign -/
theorem mulQ {w : World} {L : Nat} {v u : Value} {q r : Rat} (h : RdQ w L v q) (h' : RdQ w L u r) (hL : 1 ≤ L) (hL2 : L ≤ 100000000000) :
   Calls Tryz.prog 67 #[v, u] w fun e w' => RetQ w.heap.size (q * r) e w' ∧ Below w.heap.size w w' := by
 have K := Lib.hid (fun W (hb : Below w.heap.size w W) => parts_any (h.below hb) hL hL2)
 have K' := Lib.hid (fun W (hb : Below w.heap.size w W) => parts_any (h'.below hb) hL hL2)
 obtain ⟨s0, A0, n0, c0, B0, m0, d0, rfl⟩ := h.form
 obtain ⟨s9, A9, n9, c9, B9, m9, d9, rfl⟩ := h'.form
 clear h h'
 go_enter Tryz.func67, Tryz.ntmps67
 (go_wp2_with fail; (with_reducible refine (K.out _ (by (skip); repeat' (first | (with_reducible first | exact BlR _ _ | assumption | refine BlA ?_ ?_ _ | refine BlD ?_ | refine BlN ?_ _ | refine BlS ?_ ?_ _ | refine BlT ?_ (BlM (by assumption) ?_)) | omega | (simp only [ZZ]; omega) | go_size))).mono ?_); rintro e w1 ⟨⟨s, A1, n1, c1, x, B1, m1, d1, y, rfl, rx, ry, hy, rfl, hn1, hm1, hx9, hy9⟩, hb1⟩; have hb1z := Below.size hb1; (try simp only [ZZ] at hb1z); obtain ⟨hb1c0, hb1f0⟩ := bbo hb1 (w.heap.size) (by first | omega | (simp only [ZZ]; omega)); obtain ⟨hb1c1, hb1f1⟩ := bbo hb1 (w.heap.size + 1) (by first | omega | (simp only [ZZ]; omega)); obtain ⟨hb1c2, hb1f2⟩ := bbo hb1 (w.heap.size + 2) (by first | omega | (simp only [ZZ]; omega)))
 (go_wp2_with fail; (with_reducible refine (K'.out _ (by have z0 := Below.size hb1; (try simp only [ZZ] at z0 ⊢; skip); repeat' (first | (with_reducible first | exact BlR _ _ | assumption | refine BlA ?_ ?_ _ | refine BlD ?_ | refine BlN ?_ _ | refine BlS ?_ ?_ _ | refine BlT ?_ (BlM (by assumption) ?_)) | omega | (simp only [ZZ]; omega) | go_size))).mono ?_); rintro e w2 ⟨⟨s', A2, n2, c2, x', B2, m2, d2, y', rfl, rx', ry', hy', rfl, hn2, hm2, hx9', hy9'⟩, hb2⟩; have hb2z := Below.size hb2; (try simp only [ZZ] at hb2z); obtain ⟨hb2c0, hb2f0⟩ := bbo hb2 (w.heap.size) (by first | omega | (simp only [ZZ]; omega)); obtain ⟨hb2c1, hb2f1⟩ := bbo hb2 (w.heap.size + 1) (by first | omega | (simp only [ZZ]; omega)); obtain ⟨hb2c2, hb2f2⟩ := bbo hb2 (w.heap.size + 2) (by first | omega | (simp only [ZZ]; omega)))
 (go_wp2_with fail; (with_reducible refine (mulN (rx.below hb2) rx' (by omega) (by omega)).mono ?_); rintro e w3 ⟨⟨A3, n3, c3, rfl, own3⟩, hb3⟩; have hb3z := Below.size hb3; (try simp only [ZZ] at hb3z); obtain ⟨hb3c0, hb3f0⟩ := bbo hb3 (w.heap.size) (by first | omega | (simp only [ZZ]; omega)); obtain ⟨hb3c1, hb3f1⟩ := bbo hb3 (w.heap.size + 1) (by first | omega | (simp only [ZZ]; omega)); obtain ⟨hb3c2, hb3f2⟩ := bbo hb3 (w.heap.size + 2) (by first | omega | (simp only [ZZ]; omega)))
 (go_wp2_with fail; (with_reducible refine (mulN (ry.below (by have z0 := Below.size hb2; have z1 := Below.size hb3; (try simp only [ZZ] at z0 z1 ⊢; skip); repeat' (first | (with_reducible first | exact BlR _ _ | assumption | refine BlA ?_ ?_ _ | refine BlD ?_ | refine BlN ?_ _ | refine BlS ?_ ?_ _ | refine BlT ?_ (BlM (by assumption) ?_)) | omega | (simp only [ZZ]; omega) | go_size))) (ry'.below hb3) (by omega) (by omega)).mono ?_); rintro e w4 ⟨⟨A4, n4, c4, rfl, own4⟩, hb4⟩; have hb4z := Below.size hb4; (try simp only [ZZ] at hb4z); obtain ⟨hb4c0, hb4f0⟩ := bbo hb4 (w.heap.size) (by first | omega | (simp only [ZZ]; omega)); obtain ⟨hb4c1, hb4f1⟩ := bbo hb4 (w.heap.size + 1) (by first | omega | (simp only [ZZ]; omega)); obtain ⟨hb4c2, hb4f2⟩ := bbo hb4 (w.heap.size + 2) (by first | omega | (simp only [ZZ]; omega)))
 have l3 := RetP.len own3 hx9 hx9'
 have l4 := RetP.len own4 hy9 hy9'
 (go_wp2_with fail; (with_reducible refine (form_any (!(s == s')) (own3.rd.below hb4) own4.rd (by omega) (by omega) (Nat.mul_ne_zero hy hy')).mono ?_); rintro e w5 ⟨⟨v, rfl, own⟩, hb5⟩; have hb5z := Below.size hb5; (try simp only [ZZ] at hb5z); obtain ⟨hb5c0, hb5f0⟩ := bbo hb5 (w.heap.size) (by first | omega | (simp only [ZZ]; omega)); obtain ⟨hb5c1, hb5f1⟩ := bbo hb5 (w.heap.size + 1) (by first | omega | (simp only [ZZ]; omega)); obtain ⟨hb5c2, hb5f2⟩ := bbo hb5 (w.heap.size + 2) (by first | omega | (simp only [ZZ]; omega)))
 obtain ⟨s2, A2, n2, c2, B2, m2, d2, rfl⟩ := own.form
 go_wp2
 refine bodyPost_ret (v := rv s2 A2 n2 c2 B2 m2 d2) (by simp [results, Tryz.results67, go_sem, hb5c2, hb4c2, hb3c2, hb2c2, hb1c2]) rfl ?_
 rw [sq_mul _ _ _ _ _ _ hy hy']
 exact ⟨⟨_, rfl, own.set3 (by omega) (by omega) _ _ _⟩, (by have z0 := Below.size hb1; have z1 := Below.size hb2; have z2 := Below.size hb3; have z3 := Below.size hb4; have z4 := Below.size hb5; (try simp only [ZZ] at z0 z1 z2 z3 z4 ⊢; skip); repeat' (first | (with_reducible first | exact BlR _ _ | assumption | refine BlA ?_ ?_ _ | refine BlD ?_ | refine BlN ?_ _ | refine BlS ?_ ?_ _ | refine BlT ?_ (BlM (by assumption) ?_)) | omega | (simp only [ZZ]; omega) | go_size))⟩
/-- what a division returns: the quotient, or the error e0 -/
def RetDv (base : Nat) (q : Rat) (z : Value) (e : Ending) (w' : World) : Prop := ∃ v, e = .returned (.tuple #[v, z]) ∧ OwQ w' base v q
theorem RdN.pos {w : World} {A : Option Addr} {n c x : Nat} (h : RdN w A n c x) (hx : x ≠ 0) : ((n : Int) == 0) = false := by
 have := (not_congr h.zero).2 hx
 simpa using this
theorem signQ {w : World} {L : Nat} {v : Value} {q : Rat} (h : RdQ w L v q) (hL : 1 ≤ L) (hL2 : L ≤ 100000000000) :
   Calls Tryz.prog 23 #[v] w fun e w' => e = .returned (.int .i64 (sgnQ q)) ∧ Below w.heap.size w w' := by
 have K := Lib.hid (fun W (hb : Below w.heap.size w W) => parts_any (h.below hb) hL hL2)
 obtain ⟨s0, A0, n0, c0, B0, m0, d0, rfl⟩ := h.form
 clear h
 go_enter Tryz.func23, Tryz.ntmps23
 (go_wp2_with fail; (with_reducible refine (K.out _ (by (skip); repeat' (first | (with_reducible first | exact BlR _ _ | assumption | refine BlA ?_ ?_ _ | refine BlD ?_ | refine BlN ?_ _ | refine BlS ?_ ?_ _ | refine BlT ?_ (BlM (by assumption) ?_)) | omega | (simp only [ZZ]; omega) | go_size))).mono ?_); rintro e w1 ⟨⟨s, A1, n1, c1, x, B1, m1, d1, y, rfl, rx, ry, hy, rfl, hn1, hm1, hx9, hy9⟩, hb1⟩; have hb1z := Below.size hb1; (try simp only [ZZ] at hb1z); obtain ⟨hb1c0, hb1f0⟩ := bbo hb1 (w.heap.size) (by first | omega | (simp only [ZZ]; omega)))
 by_cases hx : x = 0
 · have hn : n1 = 0 := rx.zero.2 hx
   subst hx hn
   go_wp2
   go_ret
   rw [sq_zero]
   exact ⟨rfl, (by have z0 := Below.size hb1; (try simp only [ZZ] at z0 ⊢; skip); repeat' (first | (with_reducible first | exact BlR _ _ | assumption | refine BlA ?_ ?_ _ | refine BlD ?_ | refine BlN ?_ _ | refine BlS ?_ ?_ _ | refine BlT ?_ (BlM (by assumption) ?_)) | omega | (simp only [ZZ]; omega) | go_size))⟩
 · have hz := rx.pos hx
   have h0 : sq s x y ≠ 0 := sq_ne hx hy
   have h1 := sq_neg (s := s) hx hy
   have HS : Hid (sgnQ (sq s x y) = if s then -1 else 1) := by
     show sgnQ _ = _
     unfold sgnQ
     rw [if_neg h0]
     cases s <;> simp at h1 <;> simp [h1]
   clear h0 h1
   cases s
   all_goals
     go_wp2
     go_ret
     rw [HS.out]
     exact ⟨rfl, (by have z0 := Below.size hb1; (try simp only [ZZ] at z0 ⊢; skip); repeat' (first | (with_reducible first | exact BlR _ _ | assumption | refine BlA ?_ ?_ _ | refine BlD ?_ | refine BlN ?_ _ | refine BlS ?_ ?_ _ | refine BlT ?_ (BlM (by assumption) ?_)) | omega | (simp only [ZZ]; omega) | go_size))⟩
end Go.Proofs.YtoiopnmphbnjaaaGreatDoor
