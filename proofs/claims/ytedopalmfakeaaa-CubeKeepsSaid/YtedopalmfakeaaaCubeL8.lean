/- Contracts of functions and lemmas, used by the proofs of the given statements. No condition beyond those that each lemma names. -/
import Derived.Test.YtedopalmfakeaaaCubeL7
namespace Go.Proofs.Ytedopalmfakeaaa
open Go.RowKit
set_option linter.unusedSimpArgs false
set_option linter.unusedVariables false
set_option maxRecDepth 20000
/-! ## CubeKeeps -/
theorem hoN_self {c : Cn} (h : okN c) : hoN c c.1 = true := (hoN_iff c c.1).2 fun i => ⟨id, fun h2 => by
  cases h1 : c.1.testBit i
  · rfl
  · exact absurd ⟨h1, h2⟩ (tb0 h.2.2 i)⟩
theorem two_in {o : List Cn} {s : Nat} {i k : Nat} (hi : i < o.length) (hk : k < i) (h1 : hoN o[i] s = true) (h2 : hoN (o[k]'(by omega)) s = true) : 2 ≤ inN o s := by
  have e : inN o s = inN (o.take i) s + inN (o.drop i) s := by rw [← inN_append, List.take_append_drop]
  have a1 : 1 ≤ inN (o.take i) s := List.length_pos_of_mem (a := o[k]'(by omega)) (List.mem_filter.2 ⟨List.mem_iff_getElem.2 ⟨k, by simp; omega, by simp⟩, h2⟩)
  have a2 : 1 ≤ inN (o.drop i) s := List.length_pos_of_mem (a := o[i]) (List.mem_filter.2 ⟨List.mem_iff_getElem.2 ⟨0, by simp; omega, by simp⟩, h1⟩)
  omega
theorem dj_cover {l o : List Cn} (hl : ∀ b ∈ l, okN b) (h : coverN l = some o) : djN o o.length := fun i k hi hk _ => by
  have ho := (coverN_ok hl h).1
  cases hp : apN o[i] (o[k]'(by omega))
  · have ha := ho o[i] (List.getElem_mem _)
    have hb := ho (o[k]'(by omega)) (List.getElem_mem _)
    have hm := meet_holds o[i] (o[k]'(by omega)) (meN o[i] (o[k]'(by omega))).1
    rw [hp, hoN_self (meN_ok ha hb)] at hm
    have h2 : hoN o[i] (meN o[i] (o[k]'(by omega))).1 = true ∧ hoN (o[k]'(by omega)) (meN o[i] (o[k]'(by omega))).1 = true := by
      rw [← Bool.and_eq_true, ← hm]; rfl
    have h3 := two_in hi hk h2.1 h2.2
    rw [coverN_in hl h] at h3
    split at h3 <;> omega
  · rfl
theorem in_pos {l : List Cn} {s : Nat} : 0 < inN l s ↔ ∃ c ∈ l, hoN c s = true := by
  unfold inN
  rw [List.length_pos_iff_exists_mem]
  constructor
  · rintro ⟨c, hc⟩
    exact ⟨c, (List.mem_filter.1 hc).1, (List.mem_filter.1 hc).2⟩
  · rintro ⟨c, h1, h2⟩
    exact ⟨c, List.mem_filter.2 ⟨h1, h2⟩⟩
theorem absorb_in {l : List Cn} {s : Nat} : 0 < inN (absD ltN wiN l) s ↔ 0 < inN l s := by
  rw [in_pos, in_pos]
  constructor
  · rintro ⟨c, h1, h2⟩
    exact ⟨c, absD_sub ltN_o h1, h2⟩
  · rintro ⟨c, h1, h2⟩
    obtain ⟨y, hy, hcy⟩ := absD_all ltN_o wiN_o h1
    exact ⟨y, hy, hoN_within hcy h2⟩
theorem cover_min {l o : List Cn} (hl : ∀ b ∈ l, okN b) (h : coverN l = some o) (s : Nat) : inN o s = min (inN l s) 1 := by
  rw [coverN_in hl h, anyN_inN]
  by_cases h1 : 0 < inN l s
  · simp [h1]; omega
  · have : inN l s = 0 := by omega
    simp [this]
theorem owC_cap {w : World} {base : Nat} {A : Option Addr} {c : Nat} {l : List Cb} (h : OwC w base A c l) : l.length ≤ c := by
  obtain ⟨A', c', e, h2⟩ := own_form h
  injection e with _ _ e3
  omega
attribute [local irreducible] pop popc cntC covB anyN coverN absD inN djN
set_option maxHeartbeats 2000000 in
theorem cubeKeeps_no (A : Option Addr) (nl q : Nat) (s : Int) (w : World) (hv : ∀ W, Below w.heap.size w W → w.heap.size ≤ W.heap.size → Calls Try.prog 42 #[.slice A nl q] W fun e w' => e = .returned (.bool false) ∧ Below W.heap.size W w') :
    Calls Try.prog 10 #[.slice A nl q, .int .i64 s] w fun e w' => e = .returned (.bool true) ∧ Below w.heap.size w w' := by
  have K := Lib.hid hv
  clear hv
  go_enter Try.func10, Try.ntmps10
  (go_wp2_with fail; (with_reducible refine (awake12 _).mono ?_); rintro e w1 ⟨rfl, hb1⟩; have hb1z := Below.size hb1; (try simp only [World.size_alloc, World.size_setCell, World.size_drew, size_drewN'] at hb1z))
  (go_wp2_with fail; (with_reducible refine (K.out _ (by have z0 := Below.size hb1; (try simp only [World.size_alloc, World.size_setCell, World.size_drew, size_drewN'] at z0 ⊢; skip); repeat' (first | (with_reducible exact Below.refl _ _) | (with_reducible assumption) | (with_reducible refine Below.alloc ?_ ?_ _) | (with_reducible refine Below.drew ?_) | (with_reducible refine below_drewN ?_ _) | (with_reducible refine Below.setCell ?_ ?_ _) | (with_reducible refine Below.trans ?_ (Below.mono (by with_reducible assumption) ?_)) | omega | (simp only [World.size_alloc, World.size_setCell, World.size_drew, size_drewN']; omega) | go_size)) (by omega)).mono ?_); rintro e w2 ⟨rfl, hb2⟩; have hb2z := Below.size hb2; (try simp only [World.size_alloc, World.size_setCell, World.size_drew, size_drewN'] at hb2z))
  (go_wp2_with fail; (with_reducible refine (awake12 _).mono ?_); rintro e w3 ⟨rfl, hb3⟩; have hb3z := Below.size hb3; (try simp only [World.size_alloc, World.size_setCell, World.size_drew, size_drewN'] at hb3z))
  go_wp2
  go_ret
  exact ⟨rfl, (by have z0 := Below.size hb1; have z1 := Below.size hb2; have z2 := Below.size hb3; (try simp only [World.size_alloc, World.size_setCell, World.size_drew, size_drewN'] at z0 z1 z2 ⊢; skip); repeat' (first | (with_reducible exact Below.refl _ _) | (with_reducible assumption) | (with_reducible refine Below.alloc ?_ ?_ _) | (with_reducible refine Below.drew ?_) | (with_reducible refine below_drewN ?_ _) | (with_reducible refine Below.setCell ?_ ?_ _) | (with_reducible refine Below.trans ?_ (Below.mono (by with_reducible assumption) ?_)) | omega | (simp only [World.size_alloc, World.size_setCell, World.size_drew, size_drewN']; omega) | go_size))⟩
set_option maxHeartbeats 2000000 in
theorem cubeKeeps_out (A : Option Addr) (l : List Cn) (nl q : Nat) (s : Int) (w : World) (hl : l.length = nl) (hn : nl ≤ 12) (hok : ∀ a ∈ l, okN a) (h : RdC w w.heap.size A (l.map zc)) (hs : maskB s = false) :
    Calls Try.prog 10 #[.slice A nl q, .int .i64 s] w fun e w' => e = .returned (.bool true) ∧ Below w.heap.size w w' := by
  have K1 := Lib.hid (fun W hW => valid_ok A l nl q W hl hn hok hW)
  clear hok hl
  go_enter Try.func10, Try.ntmps10
  (go_wp2_with fail; (with_reducible refine (awake12 _).mono ?_); rintro e w1 ⟨rfl, hb1⟩; have hb1z := Below.size hb1; (try simp only [World.size_alloc, World.size_setCell, World.size_drew, size_drewN'] at hb1z))
  (go_wp2_with fail; (with_reducible refine (K1.out _ (h.on (by have z0 := Below.size hb1; (try simp only [World.size_alloc, World.size_setCell, World.size_drew, size_drewN'] at z0 ⊢; skip); repeat' (first | (with_reducible exact Below.refl _ _) | (with_reducible assumption) | (with_reducible refine Below.alloc ?_ ?_ _) | (with_reducible refine Below.drew ?_) | (with_reducible refine below_drewN ?_ _) | (with_reducible refine Below.setCell ?_ ?_ _) | (with_reducible refine Below.trans ?_ (Below.mono (by with_reducible assumption) ?_)) | omega | (simp only [World.size_alloc, World.size_setCell, World.size_drew, size_drewN']; omega) | go_size)) (by omega))).mono ?_); rintro e w2 ⟨rfl, hb2⟩; have hb2z := Below.size hb2; (try simp only [World.size_alloc, World.size_setCell, World.size_drew, size_drewN'] at hb2z))
  go_wp2_with (first | (go_at_call 23; (with_reducible refine (refMask_any s _).mono ?_); rintro e _ ⟨rfl, rfl⟩) | fail)
  refine (awake12 _).mono ?_
  rintro e w3 ⟨rfl, hb3⟩
  go_wp2
  go_ret
  exact ⟨rfl, (by have z0 := Below.size hb1; have z1 := Below.size hb2; have z2 := Below.size hb3; (try simp only [World.size_alloc, World.size_setCell, World.size_drew, size_drewN'] at z0 z1 z2 ⊢; skip); repeat' (first | (with_reducible exact Below.refl _ _) | (with_reducible assumption) | (with_reducible refine Below.alloc ?_ ?_ _) | (with_reducible refine Below.drew ?_) | (with_reducible refine below_drewN ?_ _) | (with_reducible refine Below.setCell ?_ ?_ _) | (with_reducible refine Below.trans ?_ (Below.mono (by with_reducible assumption) ?_)) | omega | (simp only [World.size_alloc, World.size_setCell, World.size_drew, size_drewN']; omega) | go_size))⟩
set_option maxHeartbeats 4000000 in
theorem cubeKeeps_ok (A : Option Addr) (l : List Cn) (nl q s : Nat) (w : World) (hl : l.length = nl) (hn : nl ≤ 12) (hcap : nl ≤ q) (hok : ∀ a ∈ l, okN a) (h : RdC w w.heap.size A (l.map zc)) (hs : s < 16777216) :
    Calls Try.prog 10 #[.slice A nl q, .int .i64 (s : Int)] w fun e w' => e = .returned (.bool true) ∧ Below w.heap.size w w' := by
  have hm : maskB (s : Int) = true := maskB_t (by omega) (by omega)
  have K1 := Lib.hid (fun W hW => valid_ok A l nl q W hl hn hok hW)
  have K3 := Lib.hid (fun W hW => absorb_any A l nl q W hl (by omega) hok hW)
  have K4 := Lib.hid (fun W hW => in_any A l q s nl W hl.symm (by omega) hok hs hW)
  have hal : (absD ltN wiN l).length ≤ 12 := by have := absD_len (l := l); omega
  have K5 := Lib.hid (fun (A' : Option Addr) (c' : Nat) W hW => in_any A' (absD ltN wiN l) c' s (absD ltN wiN l).length W rfl (by omega) (fun a ha => hok a (absD_sub ltN_o ha)) hs hW)
  have HI := Lib.hid (absorb_in (l := l) (s := s))
  have hnl : inN l s ≤ nl := by rw [← hl]; unfold inN; exact List.length_filter_le _ _
  have hna : inN (absD ltN wiN l) s ≤ 12 := Nat.le_trans (by unfold inN; exact List.length_filter_le _ _) hal
  generalize absD ltN wiN l = ab at *
  generalize hx : inN ab s = x at *
  obtain ⟨b0, hbx, hby⟩ : ∃ b, decide (0 < x) = b ∧ decide (0 < inN l s) = b := ⟨decide (0 < x), rfl, by
    have := HI.out
    by_cases h1 : 0 < x
    · have h2 := this.1 h1
      simp [h1, h2]
    · have h2 : ¬ 0 < inN l s := fun h2 => h1 (this.2 h2)
      simp [h1, h2]⟩
  have e0 : (b0 != b0) = false := by simp
  cases hcv : coverN l with
  | none =>
    have K2 := Lib.hid (fun W hW => cover_no (A := A) (c := q) (w := W) hl (by omega) hcap hok hW hcv)
    generalize inN l s = y at *
    clear hok hl hcv HI hx
    go_enter Try.func10, Try.ntmps10
    (go_wp2_with fail; (with_reducible refine (awake12 _).mono ?_); rintro e w1 ⟨rfl, hb1⟩; have hb1z := Below.size hb1; (try simp only [World.size_alloc, World.size_setCell, World.size_drew, size_drewN'] at hb1z))
    (go_wp2_with fail; (with_reducible refine (K1.out _ (h.on (by have z0 := Below.size hb1; (try simp only [World.size_alloc, World.size_setCell, World.size_drew, size_drewN'] at z0 ⊢; skip); repeat' (first | (with_reducible exact Below.refl _ _) | (with_reducible assumption) | (with_reducible refine Below.alloc ?_ ?_ _) | (with_reducible refine Below.drew ?_) | (with_reducible refine below_drewN ?_ _) | (with_reducible refine Below.setCell ?_ ?_ _) | (with_reducible refine Below.trans ?_ (Below.mono (by with_reducible assumption) ?_)) | omega | (simp only [World.size_alloc, World.size_setCell, World.size_drew, size_drewN']; omega) | go_size)) (by omega))).mono ?_); rintro e w2 ⟨rfl, hb2⟩; have hb2z := Below.size hb2; (try simp only [World.size_alloc, World.size_setCell, World.size_drew, size_drewN'] at hb2z))
    go_wp2_with (first | (go_at_call 23; (with_reducible refine (refMask_any (s : Int) _).mono ?_); rintro e _ ⟨rfl, rfl⟩) | fail)
    refine (K2.out _ (h.on (by have z0 := Below.size hb1; have z1 := Below.size hb2; (try simp only [World.size_alloc, World.size_setCell, World.size_drew, size_drewN'] at z0 z1 ⊢; skip); repeat' (first | (with_reducible exact Below.refl _ _) | (with_reducible assumption) | (with_reducible refine Below.alloc ?_ ?_ _) | (with_reducible refine Below.drew ?_) | (with_reducible refine below_drewN ?_ _) | (with_reducible refine Below.setCell ?_ ?_ _) | (with_reducible refine Below.trans ?_ (Below.mono (by with_reducible assumption) ?_)) | omega | (simp only [World.size_alloc, World.size_setCell, World.size_drew, size_drewN']; omega) | go_size)) (by omega))).mono ?_
    rintro e w3 ⟨rfl, hb3⟩
    have hb3z := hb3.size
    (go_wp2_with fail; (with_reducible refine (K3.out _ (h.on (by have z0 := Below.size hb1; have z1 := Below.size hb2; have z2 := Below.size hb3; (try simp only [World.size_alloc, World.size_setCell, World.size_drew, size_drewN'] at z0 z1 z2 ⊢; skip); repeat' (first | (with_reducible exact Below.refl _ _) | (with_reducible assumption) | (with_reducible refine Below.alloc ?_ ?_ _) | (with_reducible refine Below.drew ?_) | (with_reducible refine below_drewN ?_ _) | (with_reducible refine Below.setCell ?_ ?_ _) | (with_reducible refine Below.trans ?_ (Below.mono (by with_reducible assumption) ?_)) | omega | (simp only [World.size_alloc, World.size_setCell, World.size_drew, size_drewN']; omega) | go_size)) (by omega))).mono ?_); rintro e w4 ⟨⟨Aa, ca, rfl, owa⟩, hb4⟩; have hb4z := Below.size hb4; (try simp only [World.size_alloc, World.size_setCell, World.size_drew, size_drewN'] at hb4z))
    (go_wp2_with fail; (with_reducible refine (K5.out Aa ca _ (rd_own owa (by (skip); repeat' (first | (with_reducible exact Below.refl _ _) | (with_reducible assumption) | (with_reducible refine Below.alloc ?_ ?_ _) | (with_reducible refine Below.drew ?_) | (with_reducible refine below_drewN ?_ _) | (with_reducible refine Below.setCell ?_ ?_ _) | (with_reducible refine Below.trans ?_ (Below.mono (by with_reducible assumption) ?_)) | omega | (simp only [World.size_alloc, World.size_setCell, World.size_drew, size_drewN']; omega) | go_size)))).mono ?_); rintro e w5 ⟨rfl, hb5⟩; have hb5z := Below.size hb5; (try simp only [World.size_alloc, World.size_setCell, World.size_drew, size_drewN'] at hb5z))
    (go_wp2_with fail; (with_reducible refine (K4.out _ (h.on (by have z0 := Below.size hb1; have z1 := Below.size hb2; have z2 := Below.size hb3; have z3 := Below.size hb4; have z4 := Below.size hb5; (try simp only [World.size_alloc, World.size_setCell, World.size_drew, size_drewN'] at z0 z1 z2 z3 z4 ⊢; skip); repeat' (first | (with_reducible exact Below.refl _ _) | (with_reducible assumption) | (with_reducible refine Below.alloc ?_ ?_ _) | (with_reducible refine Below.drew ?_) | (with_reducible refine below_drewN ?_ _) | (with_reducible refine Below.setCell ?_ ?_ _) | (with_reducible refine Below.trans ?_ (Below.mono (by with_reducible assumption) ?_)) | omega | (simp only [World.size_alloc, World.size_setCell, World.size_drew, size_drewN']; omega) | go_size)) (by omega))).mono ?_); rintro e w6 ⟨rfl, hb6⟩; have hb6z := Below.size hb6; (try simp only [World.size_alloc, World.size_setCell, World.size_drew, size_drewN'] at hb6z))
    go_wp2_with (first | (go_at_call 44; (with_reducible refine (is_n 4 4 _).mono ?_); rintro e _ ⟨rfl, rfl⟩) | fail)
    go_ret
    exact ⟨by simp, (by have z0 := Below.size hb1; have z1 := Below.size hb2; have z2 := Below.size hb3; have z3 := Below.size hb4; have z4 := Below.size hb5; have z5 := Below.size hb6; (try simp only [World.size_alloc, World.size_setCell, World.size_drew, size_drewN'] at z0 z1 z2 z3 z4 z5 ⊢; skip); repeat' (first | (with_reducible exact Below.refl _ _) | (with_reducible assumption) | (with_reducible refine Below.alloc ?_ ?_ _) | (with_reducible refine Below.drew ?_) | (with_reducible refine below_drewN ?_ _) | (with_reducible refine Below.setCell ?_ ?_ _) | (with_reducible refine Below.trans ?_ (Below.mono (by with_reducible assumption) ?_)) | omega | (simp only [World.size_alloc, World.size_setCell, World.size_drew, size_drewN']; omega) | go_size))⟩
  | some o =>
    have hol := (coverN_ok hok hcv).2
    have hoo := (coverN_ok hok hcv).1
    have HM := Lib.hid (cover_min hok hcv s)
    have HD := Lib.hid (dj_cover hok hcv)
    have K2 := Lib.hid (fun W hW => cover_yes (A := A) (c := q) (w := W) hl (by omega) hcap hok hW hcv)
    have K6 := Lib.hid (fun (A' : Option Addr) (c' : Nat) W (hc : o.length ≤ c') hW => disj_any A' o o.length c' W rfl hol hc hoo hW)
    have K7 := Lib.hid (fun (A' : Option Addr) (c' : Nat) W hW => in_any A' o c' s o.length W rfl (by omega) hoo hs hW)
    generalize inN l s = y at *
    generalize inN o s = z at *
    clear hok hl hcv HI hx hoo
    have hzy : (z : Int) = min (y : Int) 1 := by have := HM.out; omega
    go_enter Try.func10, Try.ntmps10
    (go_wp2_with fail; (with_reducible refine (awake12 _).mono ?_); rintro e w1 ⟨rfl, hb1⟩; have hb1z := Below.size hb1; (try simp only [World.size_alloc, World.size_setCell, World.size_drew, size_drewN'] at hb1z))
    (go_wp2_with fail; (with_reducible refine (K1.out _ (h.on (by have z0 := Below.size hb1; (try simp only [World.size_alloc, World.size_setCell, World.size_drew, size_drewN'] at z0 ⊢; skip); repeat' (first | (with_reducible exact Below.refl _ _) | (with_reducible assumption) | (with_reducible refine Below.alloc ?_ ?_ _) | (with_reducible refine Below.drew ?_) | (with_reducible refine below_drewN ?_ _) | (with_reducible refine Below.setCell ?_ ?_ _) | (with_reducible refine Below.trans ?_ (Below.mono (by with_reducible assumption) ?_)) | omega | (simp only [World.size_alloc, World.size_setCell, World.size_drew, size_drewN']; omega) | go_size)) (by omega))).mono ?_); rintro e w2 ⟨rfl, hb2⟩; have hb2z := Below.size hb2; (try simp only [World.size_alloc, World.size_setCell, World.size_drew, size_drewN'] at hb2z))
    go_wp2_with (first | (go_at_call 23; (with_reducible refine (refMask_any (s : Int) _).mono ?_); rintro e _ ⟨rfl, rfl⟩) | fail)
    refine (K2.out _ (h.on (by have z0 := Below.size hb1; have z1 := Below.size hb2; (try simp only [World.size_alloc, World.size_setCell, World.size_drew, size_drewN'] at z0 z1 ⊢; skip); repeat' (first | (with_reducible exact Below.refl _ _) | (with_reducible assumption) | (with_reducible refine Below.alloc ?_ ?_ _) | (with_reducible refine Below.drew ?_) | (with_reducible refine below_drewN ?_ _) | (with_reducible refine Below.setCell ?_ ?_ _) | (with_reducible refine Below.trans ?_ (Below.mono (by with_reducible assumption) ?_)) | omega | (simp only [World.size_alloc, World.size_setCell, World.size_drew, size_drewN']; omega) | go_size)) (by omega))).mono ?_
    rintro e w3 ⟨⟨Ac, cc, rfl, owc⟩, hb3⟩
    have hcc := owC_cap owc
    simp only [List.length_map] at hcc
    have hb3z := hb3.size
    (go_wp2_with fail; (with_reducible refine (K3.out _ (h.on (by have z0 := Below.size hb1; have z1 := Below.size hb2; have z2 := Below.size hb3; (try simp only [World.size_alloc, World.size_setCell, World.size_drew, size_drewN'] at z0 z1 z2 ⊢; skip); repeat' (first | (with_reducible exact Below.refl _ _) | (with_reducible assumption) | (with_reducible refine Below.alloc ?_ ?_ _) | (with_reducible refine Below.drew ?_) | (with_reducible refine below_drewN ?_ _) | (with_reducible refine Below.setCell ?_ ?_ _) | (with_reducible refine Below.trans ?_ (Below.mono (by with_reducible assumption) ?_)) | omega | (simp only [World.size_alloc, World.size_setCell, World.size_drew, size_drewN']; omega) | go_size)) (by omega))).mono ?_); rintro e w4 ⟨⟨Aa, ca, rfl, owa⟩, hb4⟩; have hb4z := Below.size hb4; (try simp only [World.size_alloc, World.size_setCell, World.size_drew, size_drewN'] at hb4z))
    (go_wp2_with fail; (with_reducible refine (K5.out Aa ca _ (rd_own owa (by (skip); repeat' (first | (with_reducible exact Below.refl _ _) | (with_reducible assumption) | (with_reducible refine Below.alloc ?_ ?_ _) | (with_reducible refine Below.drew ?_) | (with_reducible refine below_drewN ?_ _) | (with_reducible refine Below.setCell ?_ ?_ _) | (with_reducible refine Below.trans ?_ (Below.mono (by with_reducible assumption) ?_)) | omega | (simp only [World.size_alloc, World.size_setCell, World.size_drew, size_drewN']; omega) | go_size)))).mono ?_); rintro e w5 ⟨rfl, hb5⟩; have hb5z := Below.size hb5; (try simp only [World.size_alloc, World.size_setCell, World.size_drew, size_drewN'] at hb5z))
    (go_wp2_with fail; (with_reducible refine (K4.out _ (h.on (by have z0 := Below.size hb1; have z1 := Below.size hb2; have z2 := Below.size hb3; have z3 := Below.size hb4; have z4 := Below.size hb5; (try simp only [World.size_alloc, World.size_setCell, World.size_drew, size_drewN'] at z0 z1 z2 z3 z4 ⊢; skip); repeat' (first | (with_reducible exact Below.refl _ _) | (with_reducible assumption) | (with_reducible refine Below.alloc ?_ ?_ _) | (with_reducible refine Below.drew ?_) | (with_reducible refine below_drewN ?_ _) | (with_reducible refine Below.setCell ?_ ?_ _) | (with_reducible refine Below.trans ?_ (Below.mono (by with_reducible assumption) ?_)) | omega | (simp only [World.size_alloc, World.size_setCell, World.size_drew, size_drewN']; omega) | go_size)) (by omega))).mono ?_); rintro e w6 ⟨rfl, hb6⟩; have hb6z := Below.size hb6; (try simp only [World.size_alloc, World.size_setCell, World.size_drew, size_drewN'] at hb6z))
    go_wp2_with fail
    refine (K6.out Ac cc _ hcc (rd_own owc (by have z0 := Below.size hb4; have z1 := Below.size hb5; have z2 := Below.size hb6; (try simp only [World.size_alloc, World.size_setCell, World.size_drew, size_drewN'] at z0 z1 z2 ⊢; skip); repeat' (first | (with_reducible exact Below.refl _ _) | (with_reducible assumption) | (with_reducible refine Below.alloc ?_ ?_ _) | (with_reducible refine Below.drew ?_) | (with_reducible refine below_drewN ?_ _) | (with_reducible refine Below.setCell ?_ ?_ _) | (with_reducible refine Below.trans ?_ (Below.mono (by with_reducible assumption) ?_)) | omega | (simp only [World.size_alloc, World.size_setCell, World.size_drew, size_drewN']; omega) | go_size)))).mono ?_
    rintro e w7 ⟨⟨bb, rfl, hbd⟩, hb7⟩
    obtain rfl : bb = true := hbd.2 HD.out
    have hb7z := hb7.size
    clear hbd
    (go_wp2_with fail; (with_reducible refine (K7.out Ac cc _ (rd_own owc (by have z0 := Below.size hb4; have z1 := Below.size hb5; have z2 := Below.size hb6; have z3 := Below.size hb7; (try simp only [World.size_alloc, World.size_setCell, World.size_drew, size_drewN'] at z0 z1 z2 z3 ⊢; skip); repeat' (first | (with_reducible exact Below.refl _ _) | (with_reducible assumption) | (with_reducible refine Below.alloc ?_ ?_ _) | (with_reducible refine Below.drew ?_) | (with_reducible refine below_drewN ?_ _) | (with_reducible refine Below.setCell ?_ ?_ _) | (with_reducible refine Below.trans ?_ (Below.mono (by with_reducible assumption) ?_)) | omega | (simp only [World.size_alloc, World.size_setCell, World.size_drew, size_drewN']; omega) | go_size)))).mono ?_); rintro e w8 ⟨rfl, hb8⟩; have hb8z := Below.size hb8; (try simp only [World.size_alloc, World.size_setCell, World.size_drew, size_drewN'] at hb8z))
    (go_wp2_with fail; (with_reducible refine (K4.out _ (h.on (by have z0 := Below.size hb1; have z1 := Below.size hb2; have z2 := Below.size hb3; have z3 := Below.size hb4; have z4 := Below.size hb5; have z5 := Below.size hb6; have z6 := Below.size hb7; have z7 := Below.size hb8; (try simp only [World.size_alloc, World.size_setCell, World.size_drew, size_drewN'] at z0 z1 z2 z3 z4 z5 z6 z7 ⊢; skip); repeat' (first | (with_reducible exact Below.refl _ _) | (with_reducible assumption) | (with_reducible refine Below.alloc ?_ ?_ _) | (with_reducible refine Below.drew ?_) | (with_reducible refine below_drewN ?_ _) | (with_reducible refine Below.setCell ?_ ?_ _) | (with_reducible refine Below.trans ?_ (Below.mono (by with_reducible assumption) ?_)) | omega | (simp only [World.size_alloc, World.size_setCell, World.size_drew, size_drewN']; omega) | go_size)) (by omega))).mono ?_); rintro e w9 ⟨rfl, hb9⟩; have hb9z := Below.size hb9; (try simp only [World.size_alloc, World.size_setCell, World.size_drew, size_drewN'] at hb9z))
    go_wp2
    go_ret
    exact ⟨by simp, (by have z0 := Below.size hb1; have z1 := Below.size hb2; have z2 := Below.size hb3; have z3 := Below.size hb4; have z4 := Below.size hb5; have z5 := Below.size hb6; have z6 := Below.size hb7; have z7 := Below.size hb8; have z8 := Below.size hb9; (try simp only [World.size_alloc, World.size_setCell, World.size_drew, size_drewN'] at z0 z1 z2 z3 z4 z5 z6 z7 z8 ⊢; skip); repeat' (first | (with_reducible exact Below.refl _ _) | (with_reducible assumption) | (with_reducible refine Below.alloc ?_ ?_ _) | (with_reducible refine Below.drew ?_) | (with_reducible refine below_drewN ?_ _) | (with_reducible refine Below.setCell ?_ ?_ _) | (with_reducible refine Below.trans ?_ (Below.mono (by with_reducible assumption) ?_)) | omega | (simp only [World.size_alloc, World.size_setCell, World.size_drew, size_drewN']; omega) | go_size))⟩
theorem cubeKeeps_law (A : Option Addr) (l : List Cb) (nl q : Nat) (s : Int) (w : World) (hl : l.length = nl) (hcap : nl ≤ q) (h : RdC w w.heap.size A l) :
    Calls Try.prog 10 #[.slice A nl q, .int .i64 s] w fun e w' => e = .returned (.bool true) ∧ Below w.heap.size w w' := by
  by_cases h1 : 12 < nl
  · exact cubeKeeps_no A nl q s w fun W _ _ => valid_long A nl q W h1
  · by_cases hc : chkLL l = 0
    · obtain ⟨m, hok, rfl, hm⟩ := chkLL_ok hc
      have hml : m.length = nl := by simpa using hl
      by_cases hs : maskB s = true
      · obtain ⟨t, rfl, ht⟩ := maskB_nat hs
        exact cubeKeeps_ok A m nl q t w hml (by omega) hcap hok h ht
      · exact cubeKeeps_out A m nl q s w hml (by omega) hok h (by simpa using hs)
    · exact cubeKeeps_no A nl q s w fun W hb hz => valid_bad A l nl q W hl (by omega) (h.on hb hz) hc
end Go.Proofs.Ytedopalmfakeaaa
