/- Contracts of functions and lemmas, used by the proofs of the given statements. No condition beyond those that each lemma names. -/
import Derived.Test.YtedopalmfakeaaaCubeO5
import Derived.Test.YtedopalmfakeaaaCubeA5
import Derived.Test.YtedopalmfakeaaaCubeL6
namespace Go.Proofs.Ytedopalmfakeaaa
open Go.RowKit
set_option linter.unusedSimpArgs false
set_option linter.unusedVariables false
set_option maxRecDepth 20000
attribute [local irreducible] pop popc cntC covB anyN coverN absD inN
/-! ## CubeLists -/
theorem cover_no {A : Option Addr} {l : List Cn} {nl c : Nat} {w : World} (hl : l.length = nl) (hn : nl ≤ 1024) (hcap : nl ≤ c) (hok : ∀ a ∈ l, okN a) (h : RdC w w.heap.size A (l.map zc)) (hc : coverN l = none) :
    Calls Try.prog 43 #[.slice A nl c] w fun e w' => e = .returned (.tuple #[.slice none 0 0, erV 4]) ∧ Below w.heap.size w w' :=
  (cover_any A l nl c w hl hn hcap hok h).mono fun e w' ⟨h1, h2⟩ => ⟨by
    rcases h1 with ⟨o, _, _, e1, _⟩ | ⟨_, e1⟩
    · rw [hc] at e1; cases e1
    · exact e1, h2⟩
theorem cover_yes {A : Option Addr} {l o : List Cn} {nl c : Nat} {w : World} (hl : l.length = nl) (hn : nl ≤ 1024) (hcap : nl ≤ c) (hok : ∀ a ∈ l, okN a) (h : RdC w w.heap.size A (l.map zc)) (hc : coverN l = some o) :
    Calls Try.prog 43 #[.slice A nl c] w fun e w' => (∃ A' c', e = .returned (.tuple #[.slice A' o.length c', .nilIface]) ∧ OwC w' w.heap.size A' c' (o.map zc)) ∧ Below w.heap.size w w' :=
  (cover_any A l nl c w hl hn hcap hok h).mono fun e w' ⟨h1, h2⟩ => ⟨by
    rcases h1 with ⟨o', A', c', e1, e2, e3⟩ | ⟨e1, _⟩
    · rw [hc] at e1
      injection e1 with e1
      subst e1
      exact ⟨A', c', e2, e3⟩
    · rw [hc] at e1; exact absurd e1 (by simp), h2⟩
theorem rcover_no {A : Option Addr} {l : List Cn} {nl c : Nat} {w : World} (hl : l.length = nl) (hn : nl ≤ 1024) (hok : ∀ a ∈ l, okN a) (h : RdC w w.heap.size A (l.map zc)) (hc : coverN l = none) :
    Calls Try.prog 48 #[.slice A nl c] w fun e w' => e = .returned (.tuple #[.slice none 0 0, .int .i64 4]) ∧ Below w.heap.size w w' :=
  (rcover_any A l nl c w hl hn hok h).mono fun e w' ⟨h1, h2⟩ => ⟨by
    rcases h1 with ⟨o, _, _, e1, _⟩ | ⟨_, e1⟩
    · rw [hc] at e1; cases e1
    · exact e1, h2⟩
theorem rcover_yes {A : Option Addr} {l o : List Cn} {nl c : Nat} {w : World} (hl : l.length = nl) (hn : nl ≤ 1024) (hok : ∀ a ∈ l, okN a) (h : RdC w w.heap.size A (l.map zc)) (hc : coverN l = some o) :
    Calls Try.prog 48 #[.slice A nl c] w fun e w' => (∃ A' c', e = .returned (.tuple #[.slice A' o.length c', .int .i64 0]) ∧ OwC w' w.heap.size A' c' (o.map zc)) ∧ Below w.heap.size w w' :=
  (rcover_any A l nl c w hl hn hok h).mono fun e w' ⟨h1, h2⟩ => ⟨by
    rcases h1 with ⟨o', A', c', e1, e2, e3⟩ | ⟨e1, _⟩
    · rw [hc] at e1
      injection e1 with e1
      subst e1
      exact ⟨A', c', e2, e3⟩
    · rw [hc] at e1; exact absurd e1 (by simp), h2⟩
theorem absD_len {l : List Cn} : (absD ltN wiN l).length ≤ l.length := by
  unfold absD
  refine Nat.le_trans (List.length_filter_le _ _) ?_
  have := srtD_len l l.length (Nat.le_refl _)
  rwa [List.take_length] at this
theorem rd_own {w W : World} {base : Nat} {A : Option Addr} {c : Nat} {l : List Cb} (h : OwC w base A c l) (hb : Below w.heap.size w W) : RdC W W.heap.size A l := (h.below hb).rd
set_option maxHeartbeats 2000000 in
theorem cubeLists_long (A : Option Addr) (nl q : Nat) (w : World) (h1 : 40 < nl) (h2 : nl ≤ 1024) :
    Calls Try.prog 9 #[.slice A nl q] w fun e w' => e = .returned (.bool true) ∧ Below w.heap.size w w' := by
  go_enter Try.func9, Try.ntmps9
  go_wp2_with fail
  refine (awake12 _).mono ?_
  rintro e w1 ⟨rfl, hb1⟩
  go_wp2_with fail
  refine (awake12 _).mono ?_
  rintro e w2 ⟨rfl, hb2⟩
  go_wp2
  go_ret
  exact ⟨rfl, (by have z0 := Below.size hb1; have z1 := Below.size hb2; (try simp only [World.size_alloc, World.size_setCell, World.size_drew, size_drewN'] at z0 z1 ⊢; skip); repeat' (first | (with_reducible exact Below.refl _ _) | (with_reducible assumption) | (with_reducible refine Below.alloc ?_ ?_ _) | (with_reducible refine Below.drew ?_) | (with_reducible refine below_drewN ?_ _) | (with_reducible refine Below.setCell ?_ ?_ _) | (with_reducible refine Below.trans ?_ (Below.mono (by with_reducible assumption) ?_)) | omega | (simp only [World.size_alloc, World.size_setCell, World.size_drew, size_drewN']; omega) | go_size))⟩
set_option maxHeartbeats 2000000 in
theorem cubeLists_bad (A : Option Addr) (l : List Cb) (nl q : Nat) (w : World) (hl : l.length = nl) (hn : nl ≤ 9223372036854775807) (h : RdC w w.heap.size A l) (hlen : nl ≤ 40 ∨ 1024 < nl) (hc : chkLL l ≠ 0) :
    Calls Try.prog 9 #[.slice A nl q] w fun e w' => e = .returned (.bool true) ∧ Below w.heap.size w w' := by
  have K1 := fun W hW => disj_bad A l nl q W hl hn hW hc
  have K2 := fun W hW => cover_bad A l nl q W hl hn hW hc
  have K4 := fun W hW => absorb_bad A l nl q W hl hn hW hc
  have K3 := fun W hW => refCheckList_any A l nl q W hl hn hW
  have g1 : (chkLL l == 0) = false := by simpa using hc
  have g2 : (chkLL l != 0) = true := by rw [bne_iff_ne]; exact hc
  clear hc hl
  generalize chkLL l = z at *
  have K1 := Lib.hid K1
  have K2 := Lib.hid K2
  have K3 := Lib.hid K3
  have K4 := Lib.hid K4
  rcases hlen with hlen | hlen
  all_goals
    go_enter Try.func9, Try.ntmps9
    (go_wp2_with fail; (with_reducible refine (awake12 _).mono ?_); rintro e w1 ⟨rfl, hb1⟩; have hb1z := Below.size hb1; (try simp only [World.size_alloc, World.size_setCell, World.size_drew, size_drewN'] at hb1z))
    (go_wp2_with fail; (with_reducible refine (K1.out _ (h.on (by have z0 := Below.size hb1; (try simp only [World.size_alloc, World.size_setCell, World.size_drew, size_drewN'] at z0 ⊢; skip); repeat' (first | (with_reducible exact Below.refl _ _) | (with_reducible assumption) | (with_reducible refine Below.alloc ?_ ?_ _) | (with_reducible refine Below.drew ?_) | (with_reducible refine below_drewN ?_ _) | (with_reducible refine Below.setCell ?_ ?_ _) | (with_reducible refine Below.trans ?_ (Below.mono (by with_reducible assumption) ?_)) | omega | (simp only [World.size_alloc, World.size_setCell, World.size_drew, size_drewN']; omega) | go_size)) (by omega))).mono ?_); rintro e w2 ⟨rfl, hb2⟩; have hb2z := Below.size hb2; (try simp only [World.size_alloc, World.size_setCell, World.size_drew, size_drewN'] at hb2z))
    (go_wp2_with fail; (with_reducible refine (K2.out _ (h.on (by have z0 := Below.size hb1; have z1 := Below.size hb2; (try simp only [World.size_alloc, World.size_setCell, World.size_drew, size_drewN'] at z0 z1 ⊢; skip); repeat' (first | (with_reducible exact Below.refl _ _) | (with_reducible assumption) | (with_reducible refine Below.alloc ?_ ?_ _) | (with_reducible refine Below.drew ?_) | (with_reducible refine below_drewN ?_ _) | (with_reducible refine Below.setCell ?_ ?_ _) | (with_reducible refine Below.trans ?_ (Below.mono (by with_reducible assumption) ?_)) | omega | (simp only [World.size_alloc, World.size_setCell, World.size_drew, size_drewN']; omega) | go_size)) (by omega))).mono ?_); rintro e w3 ⟨rfl, hb3⟩; have hb3z := Below.size hb3; (try simp only [World.size_alloc, World.size_setCell, World.size_drew, size_drewN'] at hb3z))
    (go_wp2_with fail; (with_reducible refine (K4.out _ (h.on (by have z0 := Below.size hb1; have z1 := Below.size hb2; have z2 := Below.size hb3; (try simp only [World.size_alloc, World.size_setCell, World.size_drew, size_drewN'] at z0 z1 z2 ⊢; skip); repeat' (first | (with_reducible exact Below.refl _ _) | (with_reducible assumption) | (with_reducible refine Below.alloc ?_ ?_ _) | (with_reducible refine Below.drew ?_) | (with_reducible refine below_drewN ?_ _) | (with_reducible refine Below.setCell ?_ ?_ _) | (with_reducible refine Below.trans ?_ (Below.mono (by with_reducible assumption) ?_)) | omega | (simp only [World.size_alloc, World.size_setCell, World.size_drew, size_drewN']; omega) | go_size)) (by omega))).mono ?_); rintro e w4 ⟨rfl, hb4⟩; have hb4z := Below.size hb4; (try simp only [World.size_alloc, World.size_setCell, World.size_drew, size_drewN'] at hb4z))
    (go_wp2_with fail; (with_reducible refine (K3.out _ (h.on (by have z0 := Below.size hb1; have z1 := Below.size hb2; have z2 := Below.size hb3; have z3 := Below.size hb4; (try simp only [World.size_alloc, World.size_setCell, World.size_drew, size_drewN'] at z0 z1 z2 z3 ⊢; skip); repeat' (first | (with_reducible exact Below.refl _ _) | (with_reducible assumption) | (with_reducible refine Below.alloc ?_ ?_ _) | (with_reducible refine Below.drew ?_) | (with_reducible refine below_drewN ?_ _) | (with_reducible refine Below.setCell ?_ ?_ _) | (with_reducible refine Below.trans ?_ (Below.mono (by with_reducible assumption) ?_)) | omega | (simp only [World.size_alloc, World.size_setCell, World.size_drew, size_drewN']; omega) | go_size)) (by omega))).mono ?_); rintro e w5 ⟨rfl, hb5⟩; have hb5z := Below.size hb5; (try simp only [World.size_alloc, World.size_setCell, World.size_drew, size_drewN'] at hb5z))
    go_wp2_with (first | (go_at_call 21; (with_reducible refine (num_n _ _).mono ?_); rintro e _ ⟨rfl, rfl⟩) | fail)
    go_ret
    exact ⟨by simp, (by have z0 := Below.size hb1; have z1 := Below.size hb2; have z2 := Below.size hb3; have z3 := Below.size hb4; have z4 := Below.size hb5; (try simp only [World.size_alloc, World.size_setCell, World.size_drew, size_drewN'] at z0 z1 z2 z3 z4 ⊢; skip); repeat' (first | (with_reducible exact Below.refl _ _) | (with_reducible assumption) | (with_reducible refine Below.alloc ?_ ?_ _) | (with_reducible refine Below.drew ?_) | (with_reducible refine below_drewN ?_ _) | (with_reducible refine Below.setCell ?_ ?_ _) | (with_reducible refine Below.trans ?_ (Below.mono (by with_reducible assumption) ?_)) | omega | (simp only [World.size_alloc, World.size_setCell, World.size_drew, size_drewN']; omega) | go_size))⟩
set_option maxHeartbeats 4000000 in
theorem cubeLists_ok (A : Option Addr) (l : List Cn) (nl q : Nat) (w : World) (hl : l.length = nl) (hn : nl ≤ 40) (hcap : nl ≤ q) (hok : ∀ a ∈ l, okN a) (h : RdC w w.heap.size A (l.map zc)) :
    Calls Try.prog 9 #[.slice A nl q] w fun e w' => e = .returned (.bool true) ∧ Below w.heap.size w w' := by
  have hz : chkLL (l.map zc) = 0 := chkLL_of_ok hok (by omega)
  have K3 := fun W hW => refCheckList_any A (l.map zc) nl q W (by simpa using hl) (by omega) hW
  rw [hz] at K3
  have K1 := Lib.hid (fun W hW => disj_any A l nl q W hl (by omega) hcap hok hW)
  have K5 := Lib.hid (fun W hW => rdisj_any A l nl q W hl (by omega) hok hW)
  have K4 := Lib.hid (fun W hW => absorb_any A l nl q W hl (by omega) hok hW)
  have K6 := Lib.hid (fun W hW => rabsorb_any A l nl q W hl (by omega) hok hW)
  have K3 := Lib.hid K3
  have hal : (absD ltN wiN l).length ≤ 40 := by have := absD_len (l := l); omega
  generalize absD ltN wiN l = ab at *
  cases hcv : coverN l with
  | none =>
    have K2 := Lib.hid (fun W hW => cover_no (A := A) (c := q) (w := W) hl (by omega) hcap hok hW hcv)
    have K7 := Lib.hid (fun W hW => rcover_no (A := A) (c := q) (w := W) hl (by omega) hok hW hcv)
    clear hz hok hl hcv
    go_enter Try.func9, Try.ntmps9
    (go_wp2_with fail; (with_reducible refine (awake12 _).mono ?_); rintro e w1 ⟨rfl, hb1⟩; have hb1z := Below.size hb1; (try simp only [World.size_alloc, World.size_setCell, World.size_drew, size_drewN'] at hb1z))
    (go_wp2_with fail; (with_reducible refine (K1.out _ (h.on (by have z0 := Below.size hb1; (try simp only [World.size_alloc, World.size_setCell, World.size_drew, size_drewN'] at z0 ⊢; skip); repeat' (first | (with_reducible exact Below.refl _ _) | (with_reducible assumption) | (with_reducible refine Below.alloc ?_ ?_ _) | (with_reducible refine Below.drew ?_) | (with_reducible refine below_drewN ?_ _) | (with_reducible refine Below.setCell ?_ ?_ _) | (with_reducible refine Below.trans ?_ (Below.mono (by with_reducible assumption) ?_)) | omega | (simp only [World.size_alloc, World.size_setCell, World.size_drew, size_drewN']; omega) | go_size)) (by omega))).mono ?_); rintro e w2 ⟨⟨b1, rfl, hd1⟩, hb2⟩; have hb2z := Below.size hb2; (try simp only [World.size_alloc, World.size_setCell, World.size_drew, size_drewN'] at hb2z))
    have HD1 := Lib.hid hd1
    clear hd1
    (go_wp2_with fail; (with_reducible refine (K2.out _ (h.on (by have z0 := Below.size hb1; have z1 := Below.size hb2; (try simp only [World.size_alloc, World.size_setCell, World.size_drew, size_drewN'] at z0 z1 ⊢; skip); repeat' (first | (with_reducible exact Below.refl _ _) | (with_reducible assumption) | (with_reducible refine Below.alloc ?_ ?_ _) | (with_reducible refine Below.drew ?_) | (with_reducible refine below_drewN ?_ _) | (with_reducible refine Below.setCell ?_ ?_ _) | (with_reducible refine Below.trans ?_ (Below.mono (by with_reducible assumption) ?_)) | omega | (simp only [World.size_alloc, World.size_setCell, World.size_drew, size_drewN']; omega) | go_size)) (by omega))).mono ?_); rintro e w3 ⟨rfl, hb3⟩; have hb3z := Below.size hb3; (try simp only [World.size_alloc, World.size_setCell, World.size_drew, size_drewN'] at hb3z))
    (go_wp2_with fail; (with_reducible refine (K4.out _ (h.on (by have z0 := Below.size hb1; have z1 := Below.size hb2; have z2 := Below.size hb3; (try simp only [World.size_alloc, World.size_setCell, World.size_drew, size_drewN'] at z0 z1 z2 ⊢; skip); repeat' (first | (with_reducible exact Below.refl _ _) | (with_reducible assumption) | (with_reducible refine Below.alloc ?_ ?_ _) | (with_reducible refine Below.drew ?_) | (with_reducible refine below_drewN ?_ _) | (with_reducible refine Below.setCell ?_ ?_ _) | (with_reducible refine Below.trans ?_ (Below.mono (by with_reducible assumption) ?_)) | omega | (simp only [World.size_alloc, World.size_setCell, World.size_drew, size_drewN']; omega) | go_size)) (by omega))).mono ?_); rintro e w4 ⟨⟨Aa, ca, rfl, owa⟩, hb4⟩; have hb4z := Below.size hb4; (try simp only [World.size_alloc, World.size_setCell, World.size_drew, size_drewN'] at hb4z))
    (go_wp2_with fail; (with_reducible refine (K3.out _ (h.on (by have z0 := Below.size hb1; have z1 := Below.size hb2; have z2 := Below.size hb3; have z3 := Below.size hb4; (try simp only [World.size_alloc, World.size_setCell, World.size_drew, size_drewN'] at z0 z1 z2 z3 ⊢; skip); repeat' (first | (with_reducible exact Below.refl _ _) | (with_reducible assumption) | (with_reducible refine Below.alloc ?_ ?_ _) | (with_reducible refine Below.drew ?_) | (with_reducible refine below_drewN ?_ _) | (with_reducible refine Below.setCell ?_ ?_ _) | (with_reducible refine Below.trans ?_ (Below.mono (by with_reducible assumption) ?_)) | omega | (simp only [World.size_alloc, World.size_setCell, World.size_drew, size_drewN']; omega) | go_size)) (by omega))).mono ?_); rintro e w5 ⟨rfl, hb5⟩; have hb5z := Below.size hb5; (try simp only [World.size_alloc, World.size_setCell, World.size_drew, size_drewN'] at hb5z))
    (go_wp2_with fail; (with_reducible refine (K7.out _ (h.on (by have z0 := Below.size hb1; have z1 := Below.size hb2; have z2 := Below.size hb3; have z3 := Below.size hb4; have z4 := Below.size hb5; (try simp only [World.size_alloc, World.size_setCell, World.size_drew, size_drewN'] at z0 z1 z2 z3 z4 ⊢; skip); repeat' (first | (with_reducible exact Below.refl _ _) | (with_reducible assumption) | (with_reducible refine Below.alloc ?_ ?_ _) | (with_reducible refine Below.drew ?_) | (with_reducible refine below_drewN ?_ _) | (with_reducible refine Below.setCell ?_ ?_ _) | (with_reducible refine Below.trans ?_ (Below.mono (by with_reducible assumption) ?_)) | omega | (simp only [World.size_alloc, World.size_setCell, World.size_drew, size_drewN']; omega) | go_size)) (by omega))).mono ?_); rintro e w6 ⟨rfl, hb6⟩; have hb6z := Below.size hb6; (try simp only [World.size_alloc, World.size_setCell, World.size_drew, size_drewN'] at hb6z))
    (go_wp2_with fail; (with_reducible refine (K5.out _ (h.on (by have z0 := Below.size hb1; have z1 := Below.size hb2; have z2 := Below.size hb3; have z3 := Below.size hb4; have z4 := Below.size hb5; have z5 := Below.size hb6; (try simp only [World.size_alloc, World.size_setCell, World.size_drew, size_drewN'] at z0 z1 z2 z3 z4 z5 ⊢; skip); repeat' (first | (with_reducible exact Below.refl _ _) | (with_reducible assumption) | (with_reducible refine Below.alloc ?_ ?_ _) | (with_reducible refine Below.drew ?_) | (with_reducible refine below_drewN ?_ _) | (with_reducible refine Below.setCell ?_ ?_ _) | (with_reducible refine Below.trans ?_ (Below.mono (by with_reducible assumption) ?_)) | omega | (simp only [World.size_alloc, World.size_setCell, World.size_drew, size_drewN']; omega) | go_size)) (by omega))).mono ?_); rintro e w7 ⟨⟨b2, rfl, hd2⟩, hb7⟩; have hb7z := Below.size hb7; (try simp only [World.size_alloc, World.size_setCell, World.size_drew, size_drewN'] at hb7z))
    have hbb : b1 = b2 := by
      have := HD1.out
      cases b1 <;> cases b2 <;> simp_all
    subst hbb
    clear hd2
    go_wp2_with (first | (go_at_call 21; (with_reducible refine (num_n _ _).mono ?_); rintro e _ ⟨rfl, rfl⟩) | fail)
    refine (same_at none none [] [] 0 0 0 0 _ rfl rfl (by omega) (by omega) (RdC.nil_ _ _ _) (RdC.nil_ _ _ _)).mono ?_
    rintro e w8 ⟨rfl, hb8⟩
    have hb8z := hb8.size
    go_wp2_with fail
    refine (K6.out _ (h.on (by have z0 := Below.size hb1; have z1 := Below.size hb2; have z2 := Below.size hb3; have z3 := Below.size hb4; have z4 := Below.size hb5; have z5 := Below.size hb6; have z6 := Below.size hb7; have z7 := Below.size hb8; (try simp only [World.size_alloc, World.size_setCell, World.size_drew, size_drewN'] at z0 z1 z2 z3 z4 z5 z6 z7 ⊢; skip); repeat' (first | (with_reducible exact Below.refl _ _) | (with_reducible assumption) | (with_reducible refine Below.alloc ?_ ?_ _) | (with_reducible refine Below.drew ?_) | (with_reducible refine below_drewN ?_ _) | (with_reducible refine Below.setCell ?_ ?_ _) | (with_reducible refine Below.trans ?_ (Below.mono (by with_reducible assumption) ?_)) | omega | (simp only [World.size_alloc, World.size_setCell, World.size_drew, size_drewN']; omega) | go_size)) (by omega))).mono ?_
    rintro e w9 ⟨⟨Ab, cb, rfl, owb⟩, hb9⟩
    have hb9z := hb9.size
    go_wp2_with fail
    refine (same_at Aa Ab (ab.map zc) (ab.map zc) ab.length ab.length ca cb _ (by simp) (by simp) (by omega) (by omega) (rd_own owa (by have z0 := Below.size hb5; have z1 := Below.size hb6; have z2 := Below.size hb7; have z3 := Below.size hb8; have z4 := Below.size hb9; (try simp only [World.size_alloc, World.size_setCell, World.size_drew, size_drewN'] at z0 z1 z2 z3 z4 ⊢; skip); repeat' (first | (with_reducible exact Below.refl _ _) | (with_reducible assumption) | (with_reducible refine Below.alloc ?_ ?_ _) | (with_reducible refine Below.drew ?_) | (with_reducible refine below_drewN ?_ _) | (with_reducible refine Below.setCell ?_ ?_ _) | (with_reducible refine Below.trans ?_ (Below.mono (by with_reducible assumption) ?_)) | omega | (simp only [World.size_alloc, World.size_setCell, World.size_drew, size_drewN']; omega) | go_size))) (rd_own owb (by (skip); repeat' (first | (with_reducible exact Below.refl _ _) | (with_reducible assumption) | (with_reducible refine Below.alloc ?_ ?_ _) | (with_reducible refine Below.drew ?_) | (with_reducible refine below_drewN ?_ _) | (with_reducible refine Below.setCell ?_ ?_ _) | (with_reducible refine Below.trans ?_ (Below.mono (by with_reducible assumption) ?_)) | omega | (simp only [World.size_alloc, World.size_setCell, World.size_drew, size_drewN']; omega) | go_size)))).mono ?_
    rintro e w10 ⟨rfl, hb10⟩
    go_wp2
    go_ret
    exact ⟨by simp, (by have z0 := Below.size hb1; have z1 := Below.size hb2; have z2 := Below.size hb3; have z3 := Below.size hb4; have z4 := Below.size hb5; have z5 := Below.size hb6; have z6 := Below.size hb7; have z7 := Below.size hb8; have z8 := Below.size hb9; have z9 := Below.size hb10; (try simp only [World.size_alloc, World.size_setCell, World.size_drew, size_drewN'] at z0 z1 z2 z3 z4 z5 z6 z7 z8 z9 ⊢; skip); repeat' (first | (with_reducible exact Below.refl _ _) | (with_reducible assumption) | (with_reducible refine Below.alloc ?_ ?_ _) | (with_reducible refine Below.drew ?_) | (with_reducible refine below_drewN ?_ _) | (with_reducible refine Below.setCell ?_ ?_ _) | (with_reducible refine Below.trans ?_ (Below.mono (by with_reducible assumption) ?_)) | omega | (simp only [World.size_alloc, World.size_setCell, World.size_drew, size_drewN']; omega) | go_size))⟩
  | some o =>
    have hol := (coverN_ok hok hcv).2
    have K2 := Lib.hid (fun W hW => cover_yes (A := A) (c := q) (w := W) hl (by omega) hcap hok hW hcv)
    have K7 := Lib.hid (fun W hW => rcover_yes (A := A) (c := q) (w := W) hl (by omega) hok hW hcv)
    clear hz hok hl hcv
    go_enter Try.func9, Try.ntmps9
    (go_wp2_with fail; (with_reducible refine (awake12 _).mono ?_); rintro e w1 ⟨rfl, hb1⟩; have hb1z := Below.size hb1; (try simp only [World.size_alloc, World.size_setCell, World.size_drew, size_drewN'] at hb1z))
    (go_wp2_with fail; (with_reducible refine (K1.out _ (h.on (by have z0 := Below.size hb1; (try simp only [World.size_alloc, World.size_setCell, World.size_drew, size_drewN'] at z0 ⊢; skip); repeat' (first | (with_reducible exact Below.refl _ _) | (with_reducible assumption) | (with_reducible refine Below.alloc ?_ ?_ _) | (with_reducible refine Below.drew ?_) | (with_reducible refine below_drewN ?_ _) | (with_reducible refine Below.setCell ?_ ?_ _) | (with_reducible refine Below.trans ?_ (Below.mono (by with_reducible assumption) ?_)) | omega | (simp only [World.size_alloc, World.size_setCell, World.size_drew, size_drewN']; omega) | go_size)) (by omega))).mono ?_); rintro e w2 ⟨⟨b1, rfl, hd1⟩, hb2⟩; have hb2z := Below.size hb2; (try simp only [World.size_alloc, World.size_setCell, World.size_drew, size_drewN'] at hb2z))
    have HD1 := Lib.hid hd1
    clear hd1
    (go_wp2_with fail; (with_reducible refine (K2.out _ (h.on (by have z0 := Below.size hb1; have z1 := Below.size hb2; (try simp only [World.size_alloc, World.size_setCell, World.size_drew, size_drewN'] at z0 z1 ⊢; skip); repeat' (first | (with_reducible exact Below.refl _ _) | (with_reducible assumption) | (with_reducible refine Below.alloc ?_ ?_ _) | (with_reducible refine Below.drew ?_) | (with_reducible refine below_drewN ?_ _) | (with_reducible refine Below.setCell ?_ ?_ _) | (with_reducible refine Below.trans ?_ (Below.mono (by with_reducible assumption) ?_)) | omega | (simp only [World.size_alloc, World.size_setCell, World.size_drew, size_drewN']; omega) | go_size)) (by omega))).mono ?_); rintro e w3 ⟨⟨Ac, cc, rfl, owc⟩, hb3⟩; have hb3z := Below.size hb3; (try simp only [World.size_alloc, World.size_setCell, World.size_drew, size_drewN'] at hb3z))
    (go_wp2_with fail; (with_reducible refine (K4.out _ (h.on (by have z0 := Below.size hb1; have z1 := Below.size hb2; have z2 := Below.size hb3; (try simp only [World.size_alloc, World.size_setCell, World.size_drew, size_drewN'] at z0 z1 z2 ⊢; skip); repeat' (first | (with_reducible exact Below.refl _ _) | (with_reducible assumption) | (with_reducible refine Below.alloc ?_ ?_ _) | (with_reducible refine Below.drew ?_) | (with_reducible refine below_drewN ?_ _) | (with_reducible refine Below.setCell ?_ ?_ _) | (with_reducible refine Below.trans ?_ (Below.mono (by with_reducible assumption) ?_)) | omega | (simp only [World.size_alloc, World.size_setCell, World.size_drew, size_drewN']; omega) | go_size)) (by omega))).mono ?_); rintro e w4 ⟨⟨Aa, ca, rfl, owa⟩, hb4⟩; have hb4z := Below.size hb4; (try simp only [World.size_alloc, World.size_setCell, World.size_drew, size_drewN'] at hb4z))
    (go_wp2_with fail; (with_reducible refine (K3.out _ (h.on (by have z0 := Below.size hb1; have z1 := Below.size hb2; have z2 := Below.size hb3; have z3 := Below.size hb4; (try simp only [World.size_alloc, World.size_setCell, World.size_drew, size_drewN'] at z0 z1 z2 z3 ⊢; skip); repeat' (first | (with_reducible exact Below.refl _ _) | (with_reducible assumption) | (with_reducible refine Below.alloc ?_ ?_ _) | (with_reducible refine Below.drew ?_) | (with_reducible refine below_drewN ?_ _) | (with_reducible refine Below.setCell ?_ ?_ _) | (with_reducible refine Below.trans ?_ (Below.mono (by with_reducible assumption) ?_)) | omega | (simp only [World.size_alloc, World.size_setCell, World.size_drew, size_drewN']; omega) | go_size)) (by omega))).mono ?_); rintro e w5 ⟨rfl, hb5⟩; have hb5z := Below.size hb5; (try simp only [World.size_alloc, World.size_setCell, World.size_drew, size_drewN'] at hb5z))
    (go_wp2_with fail; (with_reducible refine (K7.out _ (h.on (by have z0 := Below.size hb1; have z1 := Below.size hb2; have z2 := Below.size hb3; have z3 := Below.size hb4; have z4 := Below.size hb5; (try simp only [World.size_alloc, World.size_setCell, World.size_drew, size_drewN'] at z0 z1 z2 z3 z4 ⊢; skip); repeat' (first | (with_reducible exact Below.refl _ _) | (with_reducible assumption) | (with_reducible refine Below.alloc ?_ ?_ _) | (with_reducible refine Below.drew ?_) | (with_reducible refine below_drewN ?_ _) | (with_reducible refine Below.setCell ?_ ?_ _) | (with_reducible refine Below.trans ?_ (Below.mono (by with_reducible assumption) ?_)) | omega | (simp only [World.size_alloc, World.size_setCell, World.size_drew, size_drewN']; omega) | go_size)) (by omega))).mono ?_); rintro e w6 ⟨⟨Ad, cd, rfl, owd⟩, hb6⟩; have hb6z := Below.size hb6; (try simp only [World.size_alloc, World.size_setCell, World.size_drew, size_drewN'] at hb6z))
    (go_wp2_with fail; (with_reducible refine (K5.out _ (h.on (by have z0 := Below.size hb1; have z1 := Below.size hb2; have z2 := Below.size hb3; have z3 := Below.size hb4; have z4 := Below.size hb5; have z5 := Below.size hb6; (try simp only [World.size_alloc, World.size_setCell, World.size_drew, size_drewN'] at z0 z1 z2 z3 z4 z5 ⊢; skip); repeat' (first | (with_reducible exact Below.refl _ _) | (with_reducible assumption) | (with_reducible refine Below.alloc ?_ ?_ _) | (with_reducible refine Below.drew ?_) | (with_reducible refine below_drewN ?_ _) | (with_reducible refine Below.setCell ?_ ?_ _) | (with_reducible refine Below.trans ?_ (Below.mono (by with_reducible assumption) ?_)) | omega | (simp only [World.size_alloc, World.size_setCell, World.size_drew, size_drewN']; omega) | go_size)) (by omega))).mono ?_); rintro e w7 ⟨⟨b2, rfl, hd2⟩, hb7⟩; have hb7z := Below.size hb7; (try simp only [World.size_alloc, World.size_setCell, World.size_drew, size_drewN'] at hb7z))
    have hbb : b1 = b2 := by
      have := HD1.out
      cases b1 <;> cases b2 <;> simp_all
    subst hbb
    clear hd2
    go_wp2_with (first | (go_at_call 21; (with_reducible refine (num_0 _).mono ?_); rintro e _ ⟨rfl, rfl⟩) | fail)
    refine (same_at Ac Ad (o.map zc) (o.map zc) o.length o.length cc cd _ (by simp) (by simp) (by omega) (by omega) (rd_own owc (by have z0 := Below.size hb4; have z1 := Below.size hb5; have z2 := Below.size hb6; have z3 := Below.size hb7; (try simp only [World.size_alloc, World.size_setCell, World.size_drew, size_drewN'] at z0 z1 z2 z3 ⊢; skip); repeat' (first | (with_reducible exact Below.refl _ _) | (with_reducible assumption) | (with_reducible refine Below.alloc ?_ ?_ _) | (with_reducible refine Below.drew ?_) | (with_reducible refine below_drewN ?_ _) | (with_reducible refine Below.setCell ?_ ?_ _) | (with_reducible refine Below.trans ?_ (Below.mono (by with_reducible assumption) ?_)) | omega | (simp only [World.size_alloc, World.size_setCell, World.size_drew, size_drewN']; omega) | go_size))) (rd_own owd (by have z0 := Below.size hb7; (try simp only [World.size_alloc, World.size_setCell, World.size_drew, size_drewN'] at z0 ⊢; skip); repeat' (first | (with_reducible exact Below.refl _ _) | (with_reducible assumption) | (with_reducible refine Below.alloc ?_ ?_ _) | (with_reducible refine Below.drew ?_) | (with_reducible refine below_drewN ?_ _) | (with_reducible refine Below.setCell ?_ ?_ _) | (with_reducible refine Below.trans ?_ (Below.mono (by with_reducible assumption) ?_)) | omega | (simp only [World.size_alloc, World.size_setCell, World.size_drew, size_drewN']; omega) | go_size)))).mono ?_
    rintro e w8 ⟨rfl, hb8⟩
    have hb8z := hb8.size
    go_wp2_with fail
    refine (K6.out _ (h.on (by have z0 := Below.size hb1; have z1 := Below.size hb2; have z2 := Below.size hb3; have z3 := Below.size hb4; have z4 := Below.size hb5; have z5 := Below.size hb6; have z6 := Below.size hb7; have z7 := Below.size hb8; (try simp only [World.size_alloc, World.size_setCell, World.size_drew, size_drewN'] at z0 z1 z2 z3 z4 z5 z6 z7 ⊢; skip); repeat' (first | (with_reducible exact Below.refl _ _) | (with_reducible assumption) | (with_reducible refine Below.alloc ?_ ?_ _) | (with_reducible refine Below.drew ?_) | (with_reducible refine below_drewN ?_ _) | (with_reducible refine Below.setCell ?_ ?_ _) | (with_reducible refine Below.trans ?_ (Below.mono (by with_reducible assumption) ?_)) | omega | (simp only [World.size_alloc, World.size_setCell, World.size_drew, size_drewN']; omega) | go_size)) (by omega))).mono ?_
    rintro e w9 ⟨⟨Ab, cb, rfl, owb⟩, hb9⟩
    have hb9z := hb9.size
    go_wp2_with fail
    refine (same_at Aa Ab (ab.map zc) (ab.map zc) ab.length ab.length ca cb _ (by simp) (by simp) (by omega) (by omega) (rd_own owa (by have z0 := Below.size hb5; have z1 := Below.size hb6; have z2 := Below.size hb7; have z3 := Below.size hb8; have z4 := Below.size hb9; (try simp only [World.size_alloc, World.size_setCell, World.size_drew, size_drewN'] at z0 z1 z2 z3 z4 ⊢; skip); repeat' (first | (with_reducible exact Below.refl _ _) | (with_reducible assumption) | (with_reducible refine Below.alloc ?_ ?_ _) | (with_reducible refine Below.drew ?_) | (with_reducible refine below_drewN ?_ _) | (with_reducible refine Below.setCell ?_ ?_ _) | (with_reducible refine Below.trans ?_ (Below.mono (by with_reducible assumption) ?_)) | omega | (simp only [World.size_alloc, World.size_setCell, World.size_drew, size_drewN']; omega) | go_size))) (rd_own owb (by (skip); repeat' (first | (with_reducible exact Below.refl _ _) | (with_reducible assumption) | (with_reducible refine Below.alloc ?_ ?_ _) | (with_reducible refine Below.drew ?_) | (with_reducible refine below_drewN ?_ _) | (with_reducible refine Below.setCell ?_ ?_ _) | (with_reducible refine Below.trans ?_ (Below.mono (by with_reducible assumption) ?_)) | omega | (simp only [World.size_alloc, World.size_setCell, World.size_drew, size_drewN']; omega) | go_size)))).mono ?_
    rintro e w10 ⟨rfl, hb10⟩
    go_wp2
    go_ret
    exact ⟨by simp, (by have z0 := Below.size hb1; have z1 := Below.size hb2; have z2 := Below.size hb3; have z3 := Below.size hb4; have z4 := Below.size hb5; have z5 := Below.size hb6; have z6 := Below.size hb7; have z7 := Below.size hb8; have z8 := Below.size hb9; have z9 := Below.size hb10; (try simp only [World.size_alloc, World.size_setCell, World.size_drew, size_drewN'] at z0 z1 z2 z3 z4 z5 z6 z7 z8 z9 ⊢; skip); repeat' (first | (with_reducible exact Below.refl _ _) | (with_reducible assumption) | (with_reducible refine Below.alloc ?_ ?_ _) | (with_reducible refine Below.drew ?_) | (with_reducible refine below_drewN ?_ _) | (with_reducible refine Below.setCell ?_ ?_ _) | (with_reducible refine Below.trans ?_ (Below.mono (by with_reducible assumption) ?_)) | omega | (simp only [World.size_alloc, World.size_setCell, World.size_drew, size_drewN']; omega) | go_size))⟩
theorem cubeLists_law (A : Option Addr) (l : List Cb) (nl q : Nat) (w : World) (hl : l.length = nl) (hn : nl ≤ 9223372036854775807) (hcap : nl ≤ q) (h : RdC w w.heap.size A l) :
    Calls Try.prog 9 #[.slice A nl q] w fun e w' => e = .returned (.bool true) ∧ Below w.heap.size w w' := by
  by_cases h1 : 40 < nl ∧ nl ≤ 1024
  · exact cubeLists_long A nl q w h1.1 h1.2
  · by_cases hc : chkLL l = 0
    · obtain ⟨m, hok, rfl, hm⟩ := chkLL_ok hc
      have : m.length = nl := by simpa using hl
      exact cubeLists_ok A m nl q w this (by omega) hcap hok h
    · exact cubeLists_bad A l nl q w hl hn h (by omega) hc
end Go.Proofs.Ytedopalmfakeaaa
