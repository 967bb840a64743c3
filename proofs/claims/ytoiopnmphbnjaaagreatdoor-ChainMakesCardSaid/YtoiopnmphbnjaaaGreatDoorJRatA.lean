/- Contracts and lemmas for the given statements. Conditions: those alone that each names. -/
import Derived.Test.YtoiopnmphbnjaaaGreatDoorJNatW9
import Derived.Test.YtoiopnmphbnjaaaGreatDoorJBase
namespace Go.Proofs.YtoiopnmphbnjaaaGreatDoor
open Go.RowKit
set_option linter.unusedSimpArgs false
set_option linter.unusedVariables false
set_option maxRecDepth 20000
attribute [local irreducible] nv wp win
/-! ## package rational: one, plain -/
theorem one_any (w : World) : Calls Tryz.prog 104 #[] w fun e w' => ∃ A', e = .returned (.slice A' 1 1) ∧ OwW w' w.heap.size A' 1 [1] ∧ Below w.heap.size w w' := by
 go_enter Tryz.func104, Tryz.ntmps104
 go_wp2
 go_ret
 exact ⟨_, rfl, OwW.lit1 (x := 1) (Nat.le_refl _), (Below.refl _ _).alloc (Nat.le_refl _) _⟩
theorem plain_any (A : Option Addr) (l : List Nat) (n c : Nat) (w : World) (hl : l.length = n) (hn : n ≤ 1099511627776) (hW : W32 l) (h : RdW w w.heap.size A l) :
   Calls Tryz.prog 102 #[.slice A n c] w fun e w' => e = .returned (.bool (plainB l)) ∧ w = w' := by
 subst hl
 by_cases h0 : l.length = 0
 · have hl : l = [] := List.length_eq_zero_iff.1 h0
   subst hl
   go_enter Tryz.func102, Tryz.ntmps102
   go_wp2
   go_ret
   exact ⟨rfl, rfl⟩
 · have hlt : l.length - 1 < l.length := by omega
   obtain ⟨b, off, rfl, hb, hc⟩ := h.at_ hlt
   have hx := hW.at_ hlt
   have HP : Hid (plainB l = decide (l[l.length - 1] ≠ 0)) := by
     show plainB l = _
     unfold plainB
     rw [List.getLast?_eq_getElem?, List.getElem?_eq_getElem hlt]
     have h1 : l.isEmpty = false := by cases l; exact absurd rfl h0; rfl
     rw [h1]
     by_cases h2 : l[l.length - 1] = 0 <;> simp [h2]
   rw [HP.out]
   generalize l[l.length - 1] = x at *
   by_cases hx0 : x = 0
   · subst hx0
     go_enter Tryz.func102, Tryz.ntmps102
     go_wp2
     go_ret
     exact ⟨rfl, rfl⟩
   · have hx1 : ((x : Int) == 0) = false := by simpa using hx0
     go_enter Tryz.func102, Tryz.ntmps102
     go_wp2
     go_ret
     exact ⟨by simp [hx0], rfl⟩
end Go.Proofs.YtoiopnmphbnjaaaGreatDoor
namespace Go.Proofs.YtoiopnmphbnjaaaGreatDoor
open Go.RowKit
set_option linter.unusedSimpArgs false
set_option linter.unusedVariables false
set_option maxRecDepth 20000
attribute [local irreducible] nv wp win plainB validR
/-! ## package rational: Valid -/
abbrev rv (s : Bool) (A : Option Addr) (n c : Nat) (B : Option Addr) (m d : Nat) : Value := .agg #[.bool s, .slice A n c, .slice B m d]
theorem cmp_zero (a b : Nat) : (cmpN a b == 0) = (a == b) := by
 unfold cmpN
 split
 · have : a ≠ b := by omega
   simp [this]
 · split
   · rename_i h; simp [h]
   · rename_i h; simp [h]
theorem validR_no1 {s : Bool} {l m : List Nat} (h0 : ¬ (l.length = 0 ∧ m.length = 0)) (h : plainB l = false) : validR (s, l, m) = false := by
 unfold validR
 rw [if_neg (by simp only [Bool.and_eq_true, List.isEmpty_iff]; rintro ⟨h1, h2⟩; exact h0 ⟨by simp [h1], by simp [h2]⟩), h]
 rfl
theorem validR_zero {s : Bool} : validR (s, [], []) = !s := by unfold validR; rfl
theorem validR_no2 {s : Bool} {l m : List Nat} (h0 : ¬ (l.length = 0 ∧ m.length = 0)) (h : plainB m = false) : validR (s, l, m) = false := by
 unfold validR
 rw [if_neg (by simp only [Bool.and_eq_true, List.isEmpty_iff]; rintro ⟨h1, h2⟩; exact h0 ⟨by simp [h1], by simp [h2]⟩), h]
 simp
theorem validR_yes {s : Bool} {l m : List Nat} (h0 : ¬ (l.length = 0 ∧ m.length = 0)) (h1 : plainB l = true) (h2 : plainB m = true) : validR (s, l, m) = ((nv l).gcd (nv m) == 1) := by
 unfold validR
 rw [if_neg (by simp only [Bool.and_eq_true, List.isEmpty_iff]; rintro ⟨h1, h2⟩; exact h0 ⟨by simp [h1], by simp [h2]⟩), h1, h2]
 simp
set_option maxHeartbeats 1000000 in
theorem valid_any (s : Bool) (A B : Option Addr) (l m : List Nat) (n c n' c' : Nat) (w : World) (hl : l.length = n) (hm : m.length = n') (hn : n ≤ 274877906900) (hn' : n' ≤ 274877906900) (hcap : n ≤ c) (hcap' : n' ≤ c') (hW : W32 l) (hW' : W32 m)
   (h : RdW w w.heap.size A l) (h' : RdW w w.heap.size B m) :
   Calls Tryz.prog 58 #[rv s A n c B n' c'] w fun e w' => e = .returned (.bool (validR (s, l, m))) ∧ Below w.heap.size w w' := by
 have hbA : ∀ o, Below w.heap.size w (w.alloc o) := fun o => (Below.refl _ _).alloc (Nat.le_refl _) o
 by_cases h0 : n = 0 ∧ n' = 0
 · obtain ⟨rfl, rfl⟩ := h0
   obtain rfl := List.length_eq_zero_iff.1 hl
   obtain rfl := List.length_eq_zero_iff.1 hm
   rw [validR_zero]
   go_enter Tryz.func58, Tryz.ntmps58
   go_wp2
   go_ret
   exact ⟨rfl, hbA _⟩
 · have h0' : ¬ (l.length = 0 ∧ m.length = 0) := by rw [hl, hm]; exact h0
   have H0 := Lib.hid h0'
   have K1 := Lib.hid (fun W hr => plain_any A l n c W hl (by omega) hW hr)
   have K2 := Lib.hid (fun W hr => plain_any B m n' c' W hm (by omega) hW' hr)
   have hbW := fun o W (hb : Below w.heap.size (w.alloc o) W) => (hbA o).trans hb
   by_cases hn0 : n = 0
   · subst hn0
     have hz : ((n' : Int) == 0) = false := by simp; omega
     have HF : Hid (plainB l = false) := by
       obtain rfl := List.length_eq_zero_iff.1 hl
       show plainB [] = false
       unfold plainB; rfl
     have K1' := Lib.hid (K1.out (w.alloc (.cells #[.bool s, .slice A 0 c, .slice B n' c'] 56)) (h.on (hbA _) (by simp)))
     rw [HF.out] at K1'
     rw [validR_no1 H0.out HF.out]
     go_enter Tryz.func58, Tryz.ntmps58
     go_wp2_with (first | (go_at_call 102; (with_reducible refine (K1'.out).mono ?_); rintro e _ ⟨rfl, rfl⟩))
     go_ret
     exact ⟨rfl, hbA _⟩
   · have hz : ((n : Int) == 0) = false := by simp; omega
     obtain ⟨W1, hW1⟩ : ∃ W1, W1 = w.alloc (.cells #[.bool s, .slice A n c, .slice B n' c'] 56) := ⟨_, rfl⟩
     have hA1 := h.on (hbA (.cells #[.bool s, .slice A n c, .slice B n' c'] 56)) (B' := W1.heap.size) (by rw [hW1]; simp)
     have hB1 := h'.on (hbA (.cells #[.bool s, .slice A n c, .slice B n' c'] 56)) (B' := W1.heap.size) (by rw [hW1]; simp)
     rw [hW1] at hA1 hB1
     have K1' := K1.out _ hA1
     have K2' := K2.out _ hB1
     cases hp1 : plainB l with
     | false =>
       rw [validR_no1 H0.out hp1]
       rw [hp1] at K1'
       have K1' := Lib.hid K1'
       clear hp1
       go_enter Tryz.func58, Tryz.ntmps58
       go_wp2_with (first | (go_at_call 102; (with_reducible refine (K1'.out).mono ?_); rintro e _ ⟨rfl, rfl⟩))
       go_ret
       exact ⟨rfl, hbA _⟩
     | true =>
       rw [hp1] at K1'
       have K1' := Lib.hid K1'
       cases hp2 : plainB m with
       | false =>
         rw [validR_no2 H0.out hp2]
         rw [hp2] at K2'
         have K2' := Lib.hid K2'
         clear hp1 hp2
         go_enter Tryz.func58, Tryz.ntmps58
         go_wp2_with (first | (go_at_call 102; (with_reducible refine (K1'.out).mono ?_); rintro e _ ⟨rfl, rfl⟩) | (go_at_call 102; (with_reducible refine (K2'.out).mono ?_); rintro e _ ⟨rfl, rfl⟩))
         go_ret
         exact ⟨rfl, hbA _⟩
       | true =>
         rw [validR_yes H0.out hp1 hp2, ← cmp_zero]
         rw [hp2] at K2'
         have K2' := Lib.hid K2'
         have K3 := Lib.hid (gcd_any A B l m n c n' c' _ hl hm (by omega) (by omega) hcap hcap' hW hW' hA1 hB1)
         have hg : (dig ((nv l).gcd (nv m))).length ≤ 549755813888 := by
           have b1 : (dig (nv l)).length ≤ n := Nat.le_trans (dig_length_le (nv_lt hW)) (by omega)
           have b2 : (dig (nv m)).length ≤ n' := Nat.le_trans (dig_length_le (nv_lt hW')) (by omega)
           rcases Nat.eq_zero_or_pos (nv l) with e | e
           · rw [e, Nat.gcd_zero_left]; omega
           · have := dig_len_mono (Nat.gcd_le_left (nv m) e); omega
         generalize (nv l).gcd (nv m) = g at *
         clear hp1 hp2
         go_enter Tryz.func58, Tryz.ntmps58
         go_wp2_with (first | (go_at_call 102; (with_reducible refine (K1'.out).mono ?_); rintro e _ ⟨rfl, rfl⟩) | (go_at_call 102; (with_reducible refine (K2'.out).mono ?_); rintro e _ ⟨rfl, rfl⟩) | fail)
         (with_reducible refine (K3.out).mono ?_)
         rintro e w3 ⟨A3, c3, rfl, own3, hb3⟩
         (go_wp2_with fail; (with_reducible refine (one_any w3).mono ?_); rintro e w4 ⟨A4, rfl, own4, hb4⟩; have hb4z := Below.size hb4; (try simp only [ZZ] at hb4z))
         have own3' := own3.below hb4
         (go_wp2_with fail; (with_reducible refine (cmp_any A3 A4 (dig g) [1] _ c3 1 1 w4 rfl rfl (by omega) (by omega) own3'.cap (by omega) (dig_W32 g) (W32.one (by omega)) own3'.rd own4.rd).mono ?_); rintro e w5 ⟨rfl, hb5⟩; have hb5z := Below.size hb5; (try simp only [ZZ] at hb5z))
         rw [nv_dig, nv_one]
         obtain ⟨q, hq⟩ : ∃ q, q = cmpN g 1 := ⟨_, rfl⟩
         rw [← hq]
         have HQ := Lib.hid hq
         clear hq
         have hb3' := hbW _ _ (hb3.mono (by simp))
         go_wp2
         go_ret
         exact ⟨by rw [← HQ.out]; rfl, (by have z0 := Below.size hb3'; have z1 := Below.size hb4; have z2 := Below.size hb5; (try simp only [ZZ] at z0 z1 z2 ⊢; skip); repeat' (first | (with_reducible first | exact BlR _ _ | assumption | refine BlA ?_ ?_ _ | refine BlD ?_ | refine BlN ?_ _ | refine BlS ?_ ?_ _ | refine BlT ?_ (BlM (by assumption) ?_)) | omega | (simp only [ZZ]; omega) | go_size))⟩
end Go.Proofs.YtoiopnmphbnjaaaGreatDoor
