/- Contracts of functions and lemmas, used by the proofs of the given statements. No condition beyond those that each lemma names. -/
import Derived.Test.YtedopalmfakeaaaCubeC8
import Derived.Test.YtedopalmfakeaaaCubeL5
namespace Go.Proofs.Ytedopalmfakeaaa
open Go.RowKit
set_option linter.unusedSimpArgs false
set_option linter.unusedVariables false
set_option maxRecDepth 20000
attribute [local irreducible] pop popc cntC covB anyN coverN
theorem valid_long (A : Option Addr) (nl q : Nat) (w : World) (hn : 12 < nl) :
    Calls Try.prog 42 #[.slice A nl q] w fun e w' => e = .returned (.bool false) ∧ Below w.heap.size w w' := by
  go_enter Try.func42, Try.ntmps42
  go_wp2
  go_ret
  exact ⟨rfl, Below.refl _ _⟩
theorem valid_bad (A : Option Addr) (l : List Cb) (nl q : Nat) (w : World) (hl : l.length = nl) (hn : nl ≤ 12) (h : RdC w w.heap.size A l) (hc : chkLL l ≠ 0) :
    Calls Try.prog 42 #[.slice A nl q] w fun e w' => e = .returned (.bool false) ∧ Below w.heap.size w w' := by
  have K := refCheckList_any A l nl q w hl (by omega) h
  have g1 : (chkLL l == 0) = false := by simpa using hc
  clear hc hl
  generalize chkLL l = z at *
  have K := Lib.hid K
  go_enter Try.func42, Try.ntmps42
  (go_wp2_with fail; (with_reducible refine (K.out).mono ?_); rintro e w1 ⟨rfl, hb1⟩; have hb1z := Below.size hb1; (try simp only [World.size_alloc, World.size_setCell, World.size_drew, size_drewN'] at hb1z))
  go_wp2
  go_ret
  exact ⟨by simp, (by have z0 := Below.size hb1; (try simp only [World.size_alloc, World.size_setCell, World.size_drew, size_drewN'] at z0 ⊢; skip); repeat' (first | (with_reducible exact Below.refl _ _) | (with_reducible assumption) | (with_reducible refine Below.alloc ?_ ?_ _) | (with_reducible refine Below.drew ?_) | (with_reducible refine below_drewN ?_ _) | (with_reducible refine Below.setCell ?_ ?_ _) | (with_reducible refine Below.trans ?_ (Below.mono (by with_reducible assumption) ?_)) | omega | (simp only [World.size_alloc, World.size_setCell, World.size_drew, size_drewN']; omega) | go_size))⟩
theorem valid_ok (A : Option Addr) (l : List Cn) (nl q : Nat) (w : World) (hl : l.length = nl) (hn : nl ≤ 12) (hok : ∀ a ∈ l, okN a) (h : RdC w w.heap.size A (l.map zc)) :
    Calls Try.prog 42 #[.slice A nl q] w fun e w' => e = .returned (.bool true) ∧ Below w.heap.size w w' := by
  have K := refCheckList_any A (l.map zc) nl q w (by simpa using hl) (by omega) h
  rw [chkLL_of_ok hok (by omega)] at K
  clear hok hl
  have K := Lib.hid K
  go_enter Try.func42, Try.ntmps42
  (go_wp2_with fail; (with_reducible refine (K.out).mono ?_); rintro e w1 ⟨rfl, hb1⟩; have hb1z := Below.size hb1; (try simp only [World.size_alloc, World.size_setCell, World.size_drew, size_drewN'] at hb1z))
  go_wp2
  go_ret
  exact ⟨rfl, (by have z0 := Below.size hb1; (try simp only [World.size_alloc, World.size_setCell, World.size_drew, size_drewN'] at z0 ⊢; skip); repeat' (first | (with_reducible exact Below.refl _ _) | (with_reducible assumption) | (with_reducible refine Below.alloc ?_ ?_ _) | (with_reducible refine Below.drew ?_) | (with_reducible refine below_drewN ?_ _) | (with_reducible refine Below.setCell ?_ ?_ _) | (with_reducible refine Below.trans ?_ (Below.mono (by with_reducible assumption) ?_)) | omega | (simp only [World.size_alloc, World.size_setCell, World.size_drew, size_drewN']; omega) | go_size))⟩
set_option maxHeartbeats 2000000 in
theorem cubeCounts_no (A : Option Addr) (nl q : Nat) (v : Int) (w : World) (hv : ∀ W, Below w.heap.size w W → w.heap.size ≤ W.heap.size → Calls Try.prog 42 #[.slice A nl q] W fun e w' => e = .returned (.bool false) ∧ Below W.heap.size W w') :
    Calls Try.prog 8 #[.slice A nl q, .int .i64 v] w fun e w' => e = .returned (.bool true) ∧ Below w.heap.size w w' := by
  have K := Lib.hid hv
  clear hv
  go_enter Try.func8, Try.ntmps8
  (go_wp2_with fail; (with_reducible refine (awake12 _).mono ?_); rintro e w1 ⟨rfl, hb1⟩; have hb1z := Below.size hb1; (try simp only [World.size_alloc, World.size_setCell, World.size_drew, size_drewN'] at hb1z))
  (go_wp2_with fail; (with_reducible refine (K.out _ (by have z0 := Below.size hb1; (try simp only [World.size_alloc, World.size_setCell, World.size_drew, size_drewN'] at z0 ⊢; skip); repeat' (first | (with_reducible exact Below.refl _ _) | (with_reducible assumption) | (with_reducible refine Below.alloc ?_ ?_ _) | (with_reducible refine Below.drew ?_) | (with_reducible refine below_drewN ?_ _) | (with_reducible refine Below.setCell ?_ ?_ _) | (with_reducible refine Below.trans ?_ (Below.mono (by with_reducible assumption) ?_)) | omega | (simp only [World.size_alloc, World.size_setCell, World.size_drew, size_drewN']; omega) | go_size)) (by omega)).mono ?_); rintro e w2 ⟨rfl, hb2⟩; have hb2z := Below.size hb2; (try simp only [World.size_alloc, World.size_setCell, World.size_drew, size_drewN'] at hb2z))
  (go_wp2_with fail; (with_reducible refine (awake12 _).mono ?_); rintro e w3 ⟨rfl, hb3⟩; have hb3z := Below.size hb3; (try simp only [World.size_alloc, World.size_setCell, World.size_drew, size_drewN'] at hb3z))
  go_wp2
  go_ret
  exact ⟨rfl, (by have z0 := Below.size hb1; have z1 := Below.size hb2; have z2 := Below.size hb3; (try simp only [World.size_alloc, World.size_setCell, World.size_drew, size_drewN'] at z0 z1 z2 ⊢; skip); repeat' (first | (with_reducible exact Below.refl _ _) | (with_reducible assumption) | (with_reducible refine Below.alloc ?_ ?_ _) | (with_reducible refine Below.drew ?_) | (with_reducible refine below_drewN ?_ _) | (with_reducible refine Below.setCell ?_ ?_ _) | (with_reducible refine Below.trans ?_ (Below.mono (by with_reducible assumption) ?_)) | omega | (simp only [World.size_alloc, World.size_setCell, World.size_drew, size_drewN']; omega) | go_size))⟩
set_option maxHeartbeats 2000000 in
theorem cubeCounts_out (A : Option Addr) (l : List Cn) (nl q : Nat) (v : Int) (w : World) (hl : l.length = nl) (hn : nl ≤ 12) (hok : ∀ a ∈ l, okN a) (h : RdC w w.heap.size A (l.map zc)) (hw : wthN l v ≠ 0) :
    Calls Try.prog 8 #[.slice A nl q, .int .i64 v] w fun e w' => e = .returned (.bool true) ∧ Below w.heap.size w w' := by
  have K1 := Lib.hid (fun W hW => valid_ok A l nl q W hl hn hok hW)
  have K2 := fun W hW => refWithin_any A l nl q v W hl (by omega) hok hW
  have g2 : (wthN l v != 0) = true := by rw [bne_iff_ne]; exact hw
  clear hw hok hl
  generalize wthN l v = z at *
  have K2 := Lib.hid K2
  go_enter Try.func8, Try.ntmps8
  (go_wp2_with fail; (with_reducible refine (awake12 _).mono ?_); rintro e w1 ⟨rfl, hb1⟩; have hb1z := Below.size hb1; (try simp only [World.size_alloc, World.size_setCell, World.size_drew, size_drewN'] at hb1z))
  (go_wp2_with fail; (with_reducible refine (K1.out _ (h.on (by have z0 := Below.size hb1; (try simp only [World.size_alloc, World.size_setCell, World.size_drew, size_drewN'] at z0 ⊢; skip); repeat' (first | (with_reducible exact Below.refl _ _) | (with_reducible assumption) | (with_reducible refine Below.alloc ?_ ?_ _) | (with_reducible refine Below.drew ?_) | (with_reducible refine below_drewN ?_ _) | (with_reducible refine Below.setCell ?_ ?_ _) | (with_reducible refine Below.trans ?_ (Below.mono (by with_reducible assumption) ?_)) | omega | (simp only [World.size_alloc, World.size_setCell, World.size_drew, size_drewN']; omega) | go_size)) (by omega))).mono ?_); rintro e w2 ⟨rfl, hb2⟩; have hb2z := Below.size hb2; (try simp only [World.size_alloc, World.size_setCell, World.size_drew, size_drewN'] at hb2z))
  (go_wp2_with fail; (with_reducible refine (K2.out _ (h.on (by have z0 := Below.size hb1; have z1 := Below.size hb2; (try simp only [World.size_alloc, World.size_setCell, World.size_drew, size_drewN'] at z0 z1 ⊢; skip); repeat' (first | (with_reducible exact Below.refl _ _) | (with_reducible assumption) | (with_reducible refine Below.alloc ?_ ?_ _) | (with_reducible refine Below.drew ?_) | (with_reducible refine below_drewN ?_ _) | (with_reducible refine Below.setCell ?_ ?_ _) | (with_reducible refine Below.trans ?_ (Below.mono (by with_reducible assumption) ?_)) | omega | (simp only [World.size_alloc, World.size_setCell, World.size_drew, size_drewN']; omega) | go_size)) (by omega))).mono ?_); rintro e w3 ⟨rfl, hb3⟩; have hb3z := Below.size hb3; (try simp only [World.size_alloc, World.size_setCell, World.size_drew, size_drewN'] at hb3z))
  (go_wp2_with fail; (with_reducible refine (awake12 _).mono ?_); rintro e w4 ⟨rfl, hb4⟩; have hb4z := Below.size hb4; (try simp only [World.size_alloc, World.size_setCell, World.size_drew, size_drewN'] at hb4z))
  go_wp2
  go_ret
  exact ⟨rfl, (by have z0 := Below.size hb1; have z1 := Below.size hb2; have z2 := Below.size hb3; have z3 := Below.size hb4; (try simp only [World.size_alloc, World.size_setCell, World.size_drew, size_drewN'] at z0 z1 z2 z3 ⊢; skip); repeat' (first | (with_reducible exact Below.refl _ _) | (with_reducible assumption) | (with_reducible refine Below.alloc ?_ ?_ _) | (with_reducible refine Below.drew ?_) | (with_reducible refine below_drewN ?_ _) | (with_reducible refine Below.setCell ?_ ?_ _) | (with_reducible refine Below.trans ?_ (Below.mono (by with_reducible assumption) ?_)) | omega | (simp only [World.size_alloc, World.size_setCell, World.size_drew, size_drewN']; omega) | go_size))⟩
theorem wthN_of_inS {o : List Cn} {v : Nat} (hv : v ≤ 24) (h : ∀ a ∈ o, inS (2 ^ v - 1) a) : wthN o (v : Int) = 0 := by
  unfold wthN
  rw [if_neg (by omega), show ((v : Nat) : Int).toNat = v from rfl]
  induction o with
  | nil => rfl
  | cons a o ih =>
    unfold wthL
    have ha := h a (by simp)
    have e : (a.1 ||| a.2) / 2 ^ v = 0 := by
      rw [Nat.div_eq_zero_iff]
      right
      apply Nat.lt_pow_two_of_testBit
      intro i hi
      cases hb : (a.1 ||| a.2).testBit i
      · rfl
      · have := ha i (by rwa [Nat.testBit_or, Bool.or_eq_true] at hb)
        rw [Nat.testBit_two_pow_sub_one] at this
        simp at this
        omega
    rw [if_pos e]
    exact ih fun b hb => h b (by simp [hb])
set_option maxHeartbeats 4000000 in
theorem cubeCounts_ok (A : Option Addr) (l : List Cn) (nl q v : Nat) (w : World) (hl : l.length = nl) (hn : nl ≤ 12) (hcap : nl ≤ q) (hok : ∀ a ∈ l, okN a) (h : RdC w w.heap.size A (l.map zc)) (hv : v ≤ 24) (hin : ∀ a ∈ l, inS (2 ^ v - 1) a) :
    Calls Try.prog 8 #[.slice A nl q, .int .i64 (v : Int)] w fun e w' => e = .returned (.bool true) ∧ Below w.heap.size w w' := by
  have hw : wthN l (v : Int) = 0 := wthN_of_inS hv hin
  have hpv := popc_mask v hv
  have K1 := Lib.hid (fun W hW => valid_ok A l nl q W hl hn hok hW)
  have K2 := fun W hW => refWithin_any A l nl q v W hl (by omega) hok hW
  rw [hw] at K2
  have K2 := Lib.hid K2
  have K3 := fun W hW => countX_ok A l nl q v W hl (by omega) hok hW hw
  rw [show ((v : Nat) : Int).toNat = v from rfl] at K3
  have K4 := Lib.hid (fun W hW => cover_any A l nl q W hl (by omega) hcap hok hW)
  have K5 : ∀ W : World, RdC W W.heap.size A (l.map zc) → Calls Try.prog 36 #[.slice A nl q, .agg #[.int .i64 0, .int .i64 0]] W fun e w' => e = .returned (.tuple #[.bool (covB l (0, 0)), .nilIface]) ∧ Below W.heap.size W w' :=
    fun W hW => covers_ok A l nl q (0, 0) W hl (by omega) hok okN_zero hW
  rw [cover_all (mask_lt v hv) hok hin, hpv] at K5
  have HS : ∀ o, coverN l = some o → sumC (2 ^ v - 1) o = cnt 24 (2 ^ v - 1) (anyN l) ∧ (∀ a ∈ o, okN a) ∧ o.length ≤ 1024 ∧ ∀ a ∈ o, inS (2 ^ v - 1) a :=
    fun o ho => ⟨coverN_sum hok hin ho, (coverN_ok hok ho).1, (coverN_ok hok ho).2, coverN_inS hin ho⟩
  have hcl := cnt_le24 (2 ^ v - 1) (anyN l)
  generalize cnt 24 (2 ^ v - 1) (anyN l) = n at *
  have K3 := Lib.hid K3
  have HS := Lib.hid HS
  have s1 := shl_eq (k := v) (by omega)
  have HT : Hid (popc (2 ^ v - 1) = v) := hpv
  clear hw hok hl hin hpv
  obtain ⟨T, hT⟩ : ∃ T, T = 2 ^ v - 1 := ⟨_, rfl⟩
  rw [← hT] at HS HT
  have HTE := Lib.hid hT
  clear hT
  obtain ⟨p, hp⟩ : ∃ p : Nat, p = 2 ^ v := ⟨_, rfl⟩
  rw [← hp] at s1 K5
  have hnp : ((n : Int) == (p : Int)) = (n == p) := nat_eqn n p
  generalize (n == p) = b at *
  have K5 := Lib.hid K5
  clear hp
  cases b
  all_goals
    go_enter Try.func8, Try.ntmps8
    (go_wp2_with fail; (with_reducible refine (awake12 _).mono ?_); rintro e w1 ⟨rfl, hb1⟩; have hb1z := Below.size hb1; (try simp only [World.size_alloc, World.size_setCell, World.size_drew, size_drewN'] at hb1z))
    (go_wp2_with fail; (with_reducible refine (K1.out _ (h.on (by have z0 := Below.size hb1; (try simp only [World.size_alloc, World.size_setCell, World.size_drew, size_drewN'] at z0 ⊢; skip); repeat' (first | (with_reducible exact Below.refl _ _) | (with_reducible assumption) | (with_reducible refine Below.alloc ?_ ?_ _) | (with_reducible refine Below.drew ?_) | (with_reducible refine below_drewN ?_ _) | (with_reducible refine Below.setCell ?_ ?_ _) | (with_reducible refine Below.trans ?_ (Below.mono (by with_reducible assumption) ?_)) | omega | (simp only [World.size_alloc, World.size_setCell, World.size_drew, size_drewN']; omega) | go_size)) (by omega))).mono ?_); rintro e w2 ⟨rfl, hb2⟩; have hb2z := Below.size hb2; (try simp only [World.size_alloc, World.size_setCell, World.size_drew, size_drewN'] at hb2z))
    (go_wp2_with fail; (with_reducible refine (K2.out _ (h.on (by have z0 := Below.size hb1; have z1 := Below.size hb2; (try simp only [World.size_alloc, World.size_setCell, World.size_drew, size_drewN'] at z0 z1 ⊢; skip); repeat' (first | (with_reducible exact Below.refl _ _) | (with_reducible assumption) | (with_reducible refine Below.alloc ?_ ?_ _) | (with_reducible refine Below.drew ?_) | (with_reducible refine below_drewN ?_ _) | (with_reducible refine Below.setCell ?_ ?_ _) | (with_reducible refine Below.trans ?_ (Below.mono (by with_reducible assumption) ?_)) | omega | (simp only [World.size_alloc, World.size_setCell, World.size_drew, size_drewN']; omega) | go_size)) (by omega))).mono ?_); rintro e w3 ⟨rfl, hb3⟩; have hb3z := Below.size hb3; (try simp only [World.size_alloc, World.size_setCell, World.size_drew, size_drewN'] at hb3z))
    (go_wp2_with fail; (with_reducible refine (K3.out _ (h.on (by have z0 := Below.size hb1; have z1 := Below.size hb2; have z2 := Below.size hb3; (try simp only [World.size_alloc, World.size_setCell, World.size_drew, size_drewN'] at z0 z1 z2 ⊢; skip); repeat' (first | (with_reducible exact Below.refl _ _) | (with_reducible assumption) | (with_reducible refine Below.alloc ?_ ?_ _) | (with_reducible refine Below.drew ?_) | (with_reducible refine below_drewN ?_ _) | (with_reducible refine Below.setCell ?_ ?_ _) | (with_reducible refine Below.trans ?_ (Below.mono (by with_reducible assumption) ?_)) | omega | (simp only [World.size_alloc, World.size_setCell, World.size_drew, size_drewN']; omega) | go_size)) (by omega))).mono ?_); rintro e w4 ⟨rfl, hb4⟩; have hb4z := Below.size hb4; (try simp only [World.size_alloc, World.size_setCell, World.size_drew, size_drewN'] at hb4z))
    go_wp2_with fail
    (with_reducible refine (K4.out _ (h.on (by have z0 := Below.size hb1; have z1 := Below.size hb2; have z2 := Below.size hb3; have z3 := Below.size hb4; (try simp only [World.size_alloc, World.size_setCell, World.size_drew, size_drewN'] at z0 z1 z2 z3 ⊢; skip); repeat' (first | (with_reducible exact Below.refl _ _) | (with_reducible assumption) | (with_reducible refine Below.alloc ?_ ?_ _) | (with_reducible refine Below.drew ?_) | (with_reducible refine below_drewN ?_ _) | (with_reducible refine Below.setCell ?_ ?_ _) | (with_reducible refine Below.trans ?_ (Below.mono (by with_reducible assumption) ?_)) | omega | (simp only [World.size_alloc, World.size_setCell, World.size_drew, size_drewN']; omega) | go_size)) (by omega))).mono ?_)
    rintro e w5 ⟨hc5, hb5⟩
    have hb5z := hb5.size
    rcases hc5 with ⟨o, A5, c5, ho, rfl, own5⟩ | ⟨ho, rfl⟩
    · have HH := Lib.hid (HS.out o ho)
      clear ho
      (go_wp2_with fail; (with_reducible refine (K5.out _ (h.on (by have z0 := Below.size hb1; have z1 := Below.size hb2; have z2 := Below.size hb3; have z3 := Below.size hb4; have z4 := Below.size hb5; (try simp only [World.size_alloc, World.size_setCell, World.size_drew, size_drewN'] at z0 z1 z2 z3 z4 ⊢; skip); repeat' (first | (with_reducible exact Below.refl _ _) | (with_reducible assumption) | (with_reducible refine Below.alloc ?_ ?_ _) | (with_reducible refine Below.drew ?_) | (with_reducible refine below_drewN ?_ _) | (with_reducible refine Below.setCell ?_ ?_ _) | (with_reducible refine Below.trans ?_ (Below.mono (by with_reducible assumption) ?_)) | omega | (simp only [World.size_alloc, World.size_setCell, World.size_drew, size_drewN']; omega) | go_size)) (by omega))).mono ?_); rintro e w6 ⟨rfl, hb6⟩; have hb6z := Below.size hb6; (try simp only [World.size_alloc, World.size_setCell, World.size_drew, size_drewN'] at hb6z))
      have hol := HH.out.2.2.1
      have C1 := fun W hW => refCheckList_any A5 (o.map zc) o.length c5 W (by simp) (by omega) hW
      rw [chkLL_of_ok HH.out.2.1 hol] at C1
      have C1 := Lib.hid C1
      have C2 := fun W hW => refWithin_any A5 o o.length c5 v W rfl hol HH.out.2.1 hW
      rw [wthN_of_inS hv (by rw [← HTE.out]; exact HH.out.2.2.2)] at C2
      have C2 := Lib.hid C2
      go_wp2
      rw [s1]
      go_loopw [11, 12] (fun sm i wr => ∃ k : Nat, k ≤ o.length ∧ i = .int .i64 k ∧ sm = .int .i64 (sumC T (o.take k) : Nat) ∧ Below w5.heap.size w5 wr) (fun _ i _ => o.length - (intOf i).toNat)
      case atStart => exact ⟨0, Nat.zero_le _, rfl, by unfold sumC; simp, hb6⟩
      case round =>
        obtain ⟨k, hk, rfl, rfl, hb⟩ := hrel
        have hbz := hb.size
        have hq1 : sumC T (o.take k) ≤ 17179869184 := by
          have h1 := sumC_le T (o.take k)
          have h2 : (o.take k).length ≤ 1024 := by simp; omega
          have := Nat.mul_le_mul_left 16777216 h2
          omega
        by_cases hlt : k < o.length
        · obtain ⟨b2, off2, rfl, hbb2, u1, u2⟩ := (own5.rd.below hb).at_ (k := k) (c := zc o[k]) (by simp [hlt])
          have hx := HH.out.2.1 o[k] (List.getElem_mem _)
          have hxi := HH.out.2.2.2 o[k] (List.getElem_mem _)
          have hsz := sumC_succ T o k hlt
          have hfr := popc_fr hx hxi
          rw [HT.out] at hfr
          have hf24 := popc_le (frT T o[k])
          have hpw : 2 ^ popc (frT T o[k]) ≤ 2 ^ 24 := Nat.pow_le_pow_right (by omega) hf24
          generalize o[k] = x at *
          obtain ⟨z, hz⟩ : ∃ z, z = popc x.1 + popc x.2 := ⟨_, rfl⟩
          have C3 := fun W => size_any x hx W
          rw [← hz] at C3
          have C3 := Lib.hid C3
          generalize popc (frT T x) = f at *
          have hzv : (v : Int) - (z : Int) = (f : Int) := by omega
          have s2 := shl_eq (k := f) (by omega)
          generalize 2 ^ f = pf at *
          have hpw' : pf ≤ 16777216 := by omega
          clear hpw
          have HZ := Lib.hid hsz
          clear hsz hz hfr hxi
          generalize sumC T (o.take k) = sk at *
          (go_wp2_with fail; (with_reducible refine (C1.out _ (own5.rd.on (by have z0 := Below.size hb; (try simp only [World.size_alloc, World.size_setCell, World.size_drew, size_drewN'] at z0 ⊢; skip); repeat' (first | (with_reducible exact Below.refl _ _) | (with_reducible assumption) | (with_reducible refine Below.alloc ?_ ?_ _) | (with_reducible refine Below.drew ?_) | (with_reducible refine below_drewN ?_ _) | (with_reducible refine Below.setCell ?_ ?_ _) | (with_reducible refine Below.trans ?_ (Below.mono (by with_reducible assumption) ?_)) | omega | (simp only [World.size_alloc, World.size_setCell, World.size_drew, size_drewN']; omega) | go_size)) (by omega))).mono ?_); rintro e w7 ⟨rfl, hb7⟩; have hb7z := Below.size hb7; (try simp only [World.size_alloc, World.size_setCell, World.size_drew, size_drewN'] at hb7z))
          (go_wp2_with fail; (with_reducible refine (C2.out _ (own5.rd.on (by have z0 := Below.size hb; have z1 := Below.size hb7; (try simp only [World.size_alloc, World.size_setCell, World.size_drew, size_drewN'] at z0 z1 ⊢; skip); repeat' (first | (with_reducible exact Below.refl _ _) | (with_reducible assumption) | (with_reducible refine Below.alloc ?_ ?_ _) | (with_reducible refine Below.drew ?_) | (with_reducible refine below_drewN ?_ _) | (with_reducible refine Below.setCell ?_ ?_ _) | (with_reducible refine Below.trans ?_ (Below.mono (by with_reducible assumption) ?_)) | omega | (simp only [World.size_alloc, World.size_setCell, World.size_drew, size_drewN']; omega) | go_size)) (by omega))).mono ?_); rintro e w8 ⟨rfl, hb8⟩; have hb8z := Below.size hb8; (try simp only [World.size_alloc, World.size_setCell, World.size_drew, size_drewN'] at hb8z))
          have u1' : w8.cell? ⟨b2, off2 + k * 2, none⟩ = _ := (below_at hb8 b2 _ (by omega)).trans ((below_at hb7 b2 _ (by omega)).trans u1)
          have u2' : w8.cell? ⟨b2, off2 + k * 2 + 1, none⟩ = _ := (below_at hb8 b2 _ (by omega)).trans ((below_at hb7 b2 _ (by omega)).trans u2)
          clear u1 u2
          (go_wp2_with fail; (with_reducible refine (C3.out _).mono ?_); rintro e w9 ⟨rfl, hb9⟩; have hb9z := Below.size hb9; (try simp only [World.size_alloc, World.size_setCell, World.size_drew, size_drewN'] at hb9z))
          go_wp2
          go_roundw
          case rel => exact ⟨k + 1, by omega, by go_num, by rw [HZ.out]; go_num, (by have z0 := Below.size hb; have z1 := Below.size hb7; have z2 := Below.size hb8; have z3 := Below.size hb9; (try simp only [World.size_alloc, World.size_setCell, World.size_drew, size_drewN'] at z0 z1 z2 z3 ⊢; skip); repeat' (first | (with_reducible exact Below.refl _ _) | (with_reducible assumption) | (with_reducible refine Below.alloc ?_ ?_ _) | (with_reducible refine Below.drew ?_) | (with_reducible refine below_drewN ?_ _) | (with_reducible refine Below.setCell ?_ ?_ _) | (with_reducible refine Below.trans ?_ (Below.mono (by with_reducible assumption) ?_)) | omega | (simp only [World.size_alloc, World.size_setCell, World.size_drew, size_drewN']; omega) | go_size))⟩
          case measure => simp [intOf]; omega
        · have hall : sumC T (o.take k) = n := by rw [List.take_of_length_le (by omega)]; exact HH.out.1
          rw [hall]
          clear hall hq1
          go_wp2
          go_ret
          exact ⟨by simp, (by have z0 := Below.size hb1; have z1 := Below.size hb2; have z2 := Below.size hb3; have z3 := Below.size hb4; have z4 := Below.size hb5; have z5 := Below.size hb; (try simp only [World.size_alloc, World.size_setCell, World.size_drew, size_drewN'] at z0 z1 z2 z3 z4 z5 ⊢; skip); repeat' (first | (with_reducible exact Below.refl _ _) | (with_reducible assumption) | (with_reducible refine Below.alloc ?_ ?_ _) | (with_reducible refine Below.drew ?_) | (with_reducible refine below_drewN ?_ _) | (with_reducible refine Below.setCell ?_ ?_ _) | (with_reducible refine Below.trans ?_ (Below.mono (by with_reducible assumption) ?_)) | omega | (simp only [World.size_alloc, World.size_setCell, World.size_drew, size_drewN']; omega) | go_size))⟩
    · clear ho
      (go_wp2_with fail; (with_reducible refine (K5.out _ (h.on (by have z0 := Below.size hb1; have z1 := Below.size hb2; have z2 := Below.size hb3; have z3 := Below.size hb4; have z4 := Below.size hb5; (try simp only [World.size_alloc, World.size_setCell, World.size_drew, size_drewN'] at z0 z1 z2 z3 z4 ⊢; skip); repeat' (first | (with_reducible exact Below.refl _ _) | (with_reducible assumption) | (with_reducible refine Below.alloc ?_ ?_ _) | (with_reducible refine Below.drew ?_) | (with_reducible refine below_drewN ?_ _) | (with_reducible refine Below.setCell ?_ ?_ _) | (with_reducible refine Below.trans ?_ (Below.mono (by with_reducible assumption) ?_)) | omega | (simp only [World.size_alloc, World.size_setCell, World.size_drew, size_drewN']; omega) | go_size)) (by omega))).mono ?_); rintro e w6 ⟨rfl, hb6⟩; have hb6z := Below.size hb6; (try simp only [World.size_alloc, World.size_setCell, World.size_drew, size_drewN'] at hb6z))
      go_wp2_with (first | (go_at_call 44; (with_reducible refine (is_n 4 4 _).mono ?_); rintro e _ ⟨rfl, rfl⟩) | fail)
      go_ret
      exact ⟨rfl, (by have z0 := Below.size hb1; have z1 := Below.size hb2; have z2 := Below.size hb3; have z3 := Below.size hb4; have z4 := Below.size hb5; have z5 := Below.size hb6; (try simp only [World.size_alloc, World.size_setCell, World.size_drew, size_drewN'] at z0 z1 z2 z3 z4 z5 ⊢; skip); repeat' (first | (with_reducible exact Below.refl _ _) | (with_reducible assumption) | (with_reducible refine Below.alloc ?_ ?_ _) | (with_reducible refine Below.drew ?_) | (with_reducible refine below_drewN ?_ _) | (with_reducible refine Below.setCell ?_ ?_ _) | (with_reducible refine Below.trans ?_ (Below.mono (by with_reducible assumption) ?_)) | omega | (simp only [World.size_alloc, World.size_setCell, World.size_drew, size_drewN']; omega) | go_size))⟩
theorem cubeCounts_law (A : Option Addr) (l : List Cb) (nl q : Nat) (v : Int) (w : World) (hl : l.length = nl) (hcap : nl ≤ q) (h : RdC w w.heap.size A l) :
    Calls Try.prog 8 #[.slice A nl q, .int .i64 v] w fun e w' => e = .returned (.bool true) ∧ Below w.heap.size w w' := by
  by_cases h1 : 12 < nl
  · exact cubeCounts_no A nl q v w fun W _ _ => valid_long A nl q W h1
  · by_cases hc : chkLL l = 0
    · obtain ⟨m, hm, rfl, hml⟩ := chkLL_ok hc
      by_cases hw : wthN m v = 0
      · have hv : ¬ (v < 0 ∨ 24 < v) := by intro h2; unfold wthN at hw; rw [if_pos h2] at hw; cases hw
        obtain ⟨n, rfl⟩ := Int.eq_ofNat_of_zero_le (show 0 ≤ v by omega)
        have hw' : wthL n m = 0 := by unfold wthN at hw; rwa [if_neg hv] at hw
        exact cubeCounts_ok A m nl q n w (by simpa using hl) (by omega) hcap hm h (by omega) (wthL_inS hw')
      · exact cubeCounts_out A m nl q v w (by simpa using hl) (by omega) hm h hw
    · exact cubeCounts_no A nl q v w fun W hb hz => valid_bad A l nl q W hl (by omega) (h.on hb hz) hc
end Go.Proofs.Ytedopalmfakeaaa
