/- Contracts of functions and lemmas, used by the proofs of the given statements. No condition beyond those that each lemma names. -/
import Derived.Test.YtedopalmfakeaaaFrmW2
namespace Go.Proofs.Ytedopalmfakeaaa
open Go.RowKit
set_option linter.unusedSimpArgs false
set_option linter.unusedVariables false
set_option maxRecDepth 20000
/-! ## Valid and Check of both -/
set_option maxHeartbeats 1000000 in
theorem fvalid_any (w : World) (v t : Int) (A : Option Addr) (n c : Nat) (top : Int) (h0 : 0 ≤ v) (h1 : v ≤ 24) (hn : n ≤ 128) (ht : t ≤ 9223372036854775807) :
    Calls Try.prog 128 #[fv v A n c top, .int .i64 t] w fun e w' => e = .returned (.bool (decide (0 ≤ v ∧ 0 ≤ t ∧ t < v + n))) ∧ Below w.heap.size w w' := by
  obtain ⟨V, hV⟩ : ∃ V, V = decide (0 ≤ v ∧ 0 ≤ t ∧ t < v + n) := ⟨_, rfl⟩
  rw [← hV]
  have HH := Lib.hid hV
  clear hV
  by_cases g0 : 0 ≤ t
  · by_cases g1 : t < v
    · have HV : Hid (V = true) := by show _ = _; rw [HH.out]; simp; omega
      go_enter Try.func128, Try.ntmps128
      go_wp2
      go_ret
      exact ⟨by rw [HV.out]; rfl, (by (skip); repeat' (first | (with_reducible exact Below.refl _ _) | (with_reducible assumption) | (with_reducible refine Below.alloc ?_ ?_ _) | (with_reducible refine Below.drew ?_) | (with_reducible refine below_drewN ?_ _) | (with_reducible refine Below.setCell ?_ ?_ _) | (with_reducible refine Below.trans ?_ (Below.mono (by with_reducible assumption) ?_)) | omega | (simp only [World.size_alloc, World.size_setCell, World.size_drew, size_drewN']; omega) | go_size))⟩
    · by_cases g2 : t - v < (n : Int)
      · have HV : Hid (V = true) := by show _ = _; rw [HH.out]; simp; omega
        go_enter Try.func128, Try.ntmps128
        go_wp2
        go_ret
        exact ⟨by rw [HV.out]; rfl, (by (skip); repeat' (first | (with_reducible exact Below.refl _ _) | (with_reducible assumption) | (with_reducible refine Below.alloc ?_ ?_ _) | (with_reducible refine Below.drew ?_) | (with_reducible refine below_drewN ?_ _) | (with_reducible refine Below.setCell ?_ ?_ _) | (with_reducible refine Below.trans ?_ (Below.mono (by with_reducible assumption) ?_)) | omega | (simp only [World.size_alloc, World.size_setCell, World.size_drew, size_drewN']; omega) | go_size))⟩
      · have HV : Hid (V = false) := by show _ = _; rw [HH.out]; simp; omega
        have g3 : (n : Int) ≤ t - v := by omega
        go_enter Try.func128, Try.ntmps128
        go_wp2
        go_ret
        exact ⟨by rw [HV.out]; rfl, (by (skip); repeat' (first | (with_reducible exact Below.refl _ _) | (with_reducible assumption) | (with_reducible refine Below.alloc ?_ ?_ _) | (with_reducible refine Below.drew ?_) | (with_reducible refine below_drewN ?_ _) | (with_reducible refine Below.setCell ?_ ?_ _) | (with_reducible refine Below.trans ?_ (Below.mono (by with_reducible assumption) ?_)) | omega | (simp only [World.size_alloc, World.size_setCell, World.size_drew, size_drewN']; omega) | go_size))⟩
  · have HV : Hid (V = false) := by show _ = _; rw [HH.out]; simp; omega
    go_enter Try.func128, Try.ntmps128
    go_wp2
    go_ret
    exact ⟨by rw [HV.out]; rfl, (by (skip); repeat' (first | (with_reducible exact Below.refl _ _) | (with_reducible assumption) | (with_reducible refine Below.alloc ?_ ?_ _) | (with_reducible refine Below.drew ?_) | (with_reducible refine below_drewN ?_ _) | (with_reducible refine Below.setCell ?_ ?_ _) | (with_reducible refine Below.trans ?_ (Below.mono (by with_reducible assumption) ?_)) | omega | (simp only [World.size_alloc, World.size_setCell, World.size_drew, size_drewN']; omega) | go_size))⟩
set_option maxHeartbeats 1000000 in
theorem rvalid08_any (w : World) (v t : Int) (A : Option Addr) (n c : Nat) (top : Int) (h0 : 0 ≤ v) (h1 : v ≤ 24) (hn : n ≤ 128) (ht : t ≤ 9223372036854775807) :
    Calls Try.prog 125 #[fv v A n c top, .int .i64 t] w fun e w' => e = .returned (.bool (decide (0 ≤ v ∧ 0 ≤ t ∧ t < v + n))) ∧ Below w.heap.size w w' := by
  obtain ⟨V, hV⟩ : ∃ V, V = decide (0 ≤ v ∧ 0 ≤ t ∧ t < v + n) := ⟨_, rfl⟩
  rw [← hV]
  have HH := Lib.hid hV
  clear hV
  by_cases g0 : 0 ≤ t
  · by_cases g1 : t < v
    · have HV : Hid (V = true) := by show _ = _; rw [HH.out]; simp; omega
      go_enter Try.func125, Try.ntmps125
      go_wp2
      go_ret
      exact ⟨by rw [HV.out]; rfl, (by (skip); repeat' (first | (with_reducible exact Below.refl _ _) | (with_reducible assumption) | (with_reducible refine Below.alloc ?_ ?_ _) | (with_reducible refine Below.drew ?_) | (with_reducible refine below_drewN ?_ _) | (with_reducible refine Below.setCell ?_ ?_ _) | (with_reducible refine Below.trans ?_ (Below.mono (by with_reducible assumption) ?_)) | omega | (simp only [World.size_alloc, World.size_setCell, World.size_drew, size_drewN']; omega) | go_size))⟩
    · by_cases g2 : t - v < (n : Int)
      · have HV : Hid (V = true) := by show _ = _; rw [HH.out]; simp; omega
        go_enter Try.func125, Try.ntmps125
        go_wp2
        go_ret
        exact ⟨by rw [HV.out]; rfl, (by (skip); repeat' (first | (with_reducible exact Below.refl _ _) | (with_reducible assumption) | (with_reducible refine Below.alloc ?_ ?_ _) | (with_reducible refine Below.drew ?_) | (with_reducible refine below_drewN ?_ _) | (with_reducible refine Below.setCell ?_ ?_ _) | (with_reducible refine Below.trans ?_ (Below.mono (by with_reducible assumption) ?_)) | omega | (simp only [World.size_alloc, World.size_setCell, World.size_drew, size_drewN']; omega) | go_size))⟩
      · have HV : Hid (V = false) := by show _ = _; rw [HH.out]; simp; omega
        have g3 : (n : Int) ≤ t - v := by omega
        go_enter Try.func125, Try.ntmps125
        go_wp2
        go_ret
        exact ⟨by rw [HV.out]; rfl, (by (skip); repeat' (first | (with_reducible exact Below.refl _ _) | (with_reducible assumption) | (with_reducible refine Below.alloc ?_ ?_ _) | (with_reducible refine Below.drew ?_) | (with_reducible refine below_drewN ?_ _) | (with_reducible refine Below.setCell ?_ ?_ _) | (with_reducible refine Below.trans ?_ (Below.mono (by with_reducible assumption) ?_)) | omega | (simp only [World.size_alloc, World.size_setCell, World.size_drew, size_drewN']; omega) | go_size))⟩
  · have HV : Hid (V = false) := by show _ = _; rw [HH.out]; simp; omega
    go_enter Try.func125, Try.ntmps125
    go_wp2
    go_ret
    exact ⟨by rw [HV.out]; rfl, (by (skip); repeat' (first | (with_reducible exact Below.refl _ _) | (with_reducible assumption) | (with_reducible refine Below.alloc ?_ ?_ _) | (with_reducible refine Below.drew ?_) | (with_reducible refine below_drewN ?_ _) | (with_reducible refine Below.setCell ?_ ?_ _) | (with_reducible refine Below.trans ?_ (Below.mono (by with_reducible assumption) ?_)) | omega | (simp only [World.size_alloc, World.size_setCell, World.size_drew, size_drewN']; omega) | go_size))⟩
theorem codeF_3 {f : FrR} (h : ¬ (0 ≤ f.vars ∧ f.vars ≤ 24)) : codeF f = 3 := by unfold codeF; rw [if_pos h]
theorem codeF_4 {f : FrR} (h : 0 ≤ f.vars ∧ f.vars ≤ 24) (h1 : 128 < f.nn) : codeF f = 4 := by unfold codeF; rw [if_neg (fun x => x h), if_pos h1]
theorem codeF_n {f : FrR} (h : 0 ≤ f.vars ∧ f.vars ≤ 24) (h1 : ¬ 128 < f.nn) (h2 : ndsC f 0 f.nn ≠ 0) : codeF f = ndsC f 0 f.nn := by unfold codeF; rw [if_neg (fun x => x h), if_neg h1, if_pos h2]
theorem codeF_10 {f : FrR} (h : 0 ≤ f.vars ∧ f.vars ≤ 24) (h1 : ¬ 128 < f.nn) (h2 : ndsC f 0 f.nn = 0) (h3 : topB f = false) : codeF f = 10 := by unfold codeF; rw [if_neg (fun x => x h), if_neg h1, if_neg (fun x => x h2), if_pos h3]
theorem codeF_0 {f : FrR} (h : 0 ≤ f.vars ∧ f.vars ≤ 24) (h1 : ¬ 128 < f.nn) (h2 : ndsC f 0 f.nn = 0) (h3 : topB f = true) : codeF f = 0 := by unfold codeF; rw [if_neg (fun x => x h), if_neg h1, if_neg (fun x => x h2), if_neg (by rw [h3]; decide)]
theorem ndsC_step {f : FrR} {k : Nat} (hk : k < f.nn) (h : ndC (f.vars + k) (f.kd k) (f.kk k) (f.ar k) = 0) : ndsC f k (f.nn - k) = ndsC f (k + 1) (f.nn - (k + 1)) := by
  rw [show f.nn - k = (f.nn - (k + 1)) + 1 by omega]
  show (if _ then _ else _) = _
  rw [if_pos h]
theorem ndsC_stop {f : FrR} {k : Nat} (hk : k < f.nn) (h : ndC (f.vars + k) (f.kd k) (f.kk k) (f.ar k) ≠ 0) : ndsC f k (f.nn - k) = ndC (f.vars + k) (f.kd k) (f.kk k) (f.ar k) := by
  rw [show f.nn - k = (f.nn - (k + 1)) + 1 by omega]
  show (if _ then _ else _) = _
  rw [if_neg h]
section
variable {w : World} {A : Option Addr} {c : Nat} {f : FrR}
set_option maxHeartbeats 4000000 in
theorem fcheck_any (h : FrI w A f) (ht : f.top ≤ 9223372036854775807) :
    Calls Try.prog 103 #[fv f.vars A f.nn c f.top] w fun e w' => e = .returned (err (codeF f)) ∧ Below w.heap.size w w' := by
  by_cases h1 : 0 ≤ f.vars ∧ f.vars ≤ 24
  · obtain ⟨v0, v1⟩ := h1
    by_cases hn : 128 < f.nn
    · have HV : Hid (codeF f = 4) := codeF_4 ⟨v0, v1⟩ hn
      have a0 : ¬ f.vars < 0 := by omega
      have a1 : ¬ 24 < f.vars := by omega
      go_enter Try.func103, Try.ntmps103
      go_wp2
      go_ret
      exact ⟨by rw [HV.out]; rfl, (by (skip); repeat' (first | (with_reducible exact Below.refl _ _) | (with_reducible assumption) | (with_reducible refine Below.alloc ?_ ?_ _) | (with_reducible refine Below.drew ?_) | (with_reducible refine below_drewN ?_ _) | (with_reducible refine Below.setCell ?_ ?_ _) | (with_reducible refine Below.trans ?_ (Below.mono (by with_reducible assumption) ?_)) | omega | (simp only [World.size_alloc, World.size_setCell, World.size_drew, size_drewN']; omega) | go_size))⟩
    · have a0 : ¬ f.vars < 0 := by omega
      have a1 : ¬ 24 < f.vars := by omega
      have HN : Hid (ndsC f 0 f.nn ≠ 0 → codeF f = ndsC f 0 f.nn) := codeF_n ⟨v0, v1⟩ hn
      have HT : Hid (ndsC f 0 f.nn = 0 → topB f = false → codeF f = 10) := codeF_10 ⟨v0, v1⟩ hn
      have H0 : Hid (ndsC f 0 f.nn = 0 → topB f = true → codeF f = 0) := codeF_0 ⟨v0, v1⟩ hn
      go_enter Try.func103, Try.ntmps103
      go_wp2
      go_loopw [22] (fun j wr => ∃ k : Nat, k ≤ f.nn ∧ j = .int .i64 k ∧ ndsC f 0 f.nn = ndsC f k (f.nn - k) ∧ Below w.heap.size w wr ∧ w.heap.size < wr.heap.size ∧ wr.cell? ⟨w.heap.size, 0, none⟩ = some (.int .i64 f.vars) ∧ wr.cell? ⟨w.heap.size, 1, none⟩ = some (.slice A f.nn c) ∧ wr.cell? ⟨w.heap.size, 2, none⟩ = some (.int .i64 f.top)) (fun j _ => f.nn - (intOf j).toNat)
      case atStart => exact ⟨0, Nat.zero_le _, rfl, by simp, (by (skip); repeat' (first | (with_reducible exact Below.refl _ _) | (with_reducible assumption) | (with_reducible refine Below.alloc ?_ ?_ _) | (with_reducible refine Below.drew ?_) | (with_reducible refine below_drewN ?_ _) | (with_reducible refine Below.setCell ?_ ?_ _) | (with_reducible refine Below.trans ?_ (Below.mono (by with_reducible assumption) ?_)) | omega | (simp only [World.size_alloc, World.size_setCell, World.size_drew, size_drewN']; omega) | go_size)), by simp, by simp [go_sem], by simp [go_sem], by simp [go_sem]⟩
      case round =>
        obtain ⟨k, hk, rfl, hs, hb, hz, x0, x1, x2⟩ := hrel
        have HS := Lib.hid hs
        clear hs
        obtain ⟨wo, rfl⟩ : ∃ wo : World, wo = wr := ⟨_, rfl⟩
        by_cases hkn : k < f.nn
        · by_cases hd : ndC (f.vars + k) (f.kd k) (f.kk k) (f.ar k) = 0
          · have HX := Lib.hid (ndsC_step hkn hd)
            have K := Lib.hid (fun W (hW : Below wo.heap.size wo W) => ok_case (node_any (c := c) ((h.on hb (Nat.le_refl _)).below hW) hkn v0 v1 (by omega)) hd)
            clear hd
            go_wp2_with fail
            refine (K.out _ (by (skip); repeat' (first | (with_reducible exact Below.refl _ _) | (with_reducible assumption) | (with_reducible refine Below.alloc ?_ ?_ _) | (with_reducible refine Below.drew ?_) | (with_reducible refine below_drewN ?_ _) | (with_reducible refine Below.setCell ?_ ?_ _) | (with_reducible refine Below.trans ?_ (Below.mono (by with_reducible assumption) ?_)) | omega | (simp only [World.size_alloc, World.size_setCell, World.size_drew, size_drewN']; omega) | go_size))).mono ?_
            rintro e w3 ⟨rfl, hb3⟩
            have hb3z := hb3.size
            have y := fun o => below_at hb3 w.heap.size o hz
            go_wp2
            go_roundw
            case rel => exact ⟨k + 1, by omega, by go_num, by rw [HS.out, HX.out], (by have z0 := Below.size hb; have z1 := Below.size hb3; (try simp only [World.size_alloc, World.size_setCell, World.size_drew, size_drewN'] at z0 z1 ⊢; skip); repeat' (first | (with_reducible exact Below.refl _ _) | (with_reducible assumption) | (with_reducible refine Below.alloc ?_ ?_ _) | (with_reducible refine Below.drew ?_) | (with_reducible refine below_drewN ?_ _) | (with_reducible refine Below.setCell ?_ ?_ _) | (with_reducible refine Below.trans ?_ (Below.mono (by with_reducible assumption) ?_)) | omega | (simp only [World.size_alloc, World.size_setCell, World.size_drew, size_drewN']; omega) | go_size)), by omega, (y 0).trans x0, (y 1).trans x1, (y 2).trans x2⟩
            case measure => simp [intOf]; omega
          · have HX := Lib.hid (ndsC_stop hkn hd)
            have K := Lib.hid (fun W (hW : Below wo.heap.size wo W) => no_case (node_any (c := c) ((h.on hb (Nat.le_refl _)).below hW) hkn v0 v1 (by omega)) hd)
            have HD : Hid (codeF f = ndC (f.vars + k) (f.kd k) (f.kk k) (f.ar k)) := by show _ = _; rw [← HX.out, ← HS.out]; exact HN.out (by rw [HS.out, HX.out]; exact hd)
            have HZ : Hid (Ending.returned (erV (ndC (f.vars + k) (f.kd k) (f.kk k) (f.ar k))) = .returned (err (ndC (f.vars + k) (f.kd k) (f.kk k) (f.ar k)))) := by show _ = _; rw [err_n hd]
            clear hd HX HN HT H0 HS
            generalize ndC (f.vars + k) (f.kd k) (f.kk k) (f.ar k) = z at *
            go_wp2_with fail
            refine (K.out _ (by (skip); repeat' (first | (with_reducible exact Below.refl _ _) | (with_reducible assumption) | (with_reducible refine Below.alloc ?_ ?_ _) | (with_reducible refine Below.drew ?_) | (with_reducible refine below_drewN ?_ _) | (with_reducible refine Below.setCell ?_ ?_ _) | (with_reducible refine Below.trans ?_ (Below.mono (by with_reducible assumption) ?_)) | omega | (simp only [World.size_alloc, World.size_setCell, World.size_drew, size_drewN']; omega) | go_size))).mono ?_
            rintro e w3 ⟨rfl, hb3⟩
            go_wp2
            go_ret
            exact ⟨by rw [HD.out]; first | exact HZ.out | rfl, (by have z0 := Below.size hb; have z1 := Below.size hb3; (try simp only [World.size_alloc, World.size_setCell, World.size_drew, size_drewN'] at z0 z1 ⊢; skip); repeat' (first | (with_reducible exact Below.refl _ _) | (with_reducible assumption) | (with_reducible refine Below.alloc ?_ ?_ _) | (with_reducible refine Below.drew ?_) | (with_reducible refine below_drewN ?_ _) | (with_reducible refine Below.setCell ?_ ?_ _) | (with_reducible refine Below.trans ?_ (Below.mono (by with_reducible assumption) ?_)) | omega | (simp only [World.size_alloc, World.size_setCell, World.size_drew, size_drewN']; omega) | go_size))⟩
        · have hz0 : ndsC f 0 f.nn = 0 := by rw [HS.out, show f.nn - k = 0 by omega]; rfl
          have K := fvalid_any wo f.vars f.top A f.nn c f.top v0 v1 (by omega) ht
          change Calls Try.prog 128 _ _ (fun e w' => e = .returned (.bool (topB f)) ∧ Below wo.heap.size wo w') at K
          have HT' := Lib.hid (HT.out hz0)
          have H0' := Lib.hid (H0.out hz0)
          clear HT H0 HN HS hz0
          cases hb0 : topB f
          · have HD : Hid (codeF f = 10) := HT'.out hb0
            rw [hb0] at K
            have K := Lib.hid K
            clear hb0
            go_wp2_with fail
            refine K.out.mono ?_
            rintro e w3 ⟨rfl, hb3⟩
            go_wp2
            go_ret
            exact ⟨by rw [HD.out]; rfl, (by have z0 := Below.size hb; have z1 := Below.size hb3; (try simp only [World.size_alloc, World.size_setCell, World.size_drew, size_drewN'] at z0 z1 ⊢; skip); repeat' (first | (with_reducible exact Below.refl _ _) | (with_reducible assumption) | (with_reducible refine Below.alloc ?_ ?_ _) | (with_reducible refine Below.drew ?_) | (with_reducible refine below_drewN ?_ _) | (with_reducible refine Below.setCell ?_ ?_ _) | (with_reducible refine Below.trans ?_ (Below.mono (by with_reducible assumption) ?_)) | omega | (simp only [World.size_alloc, World.size_setCell, World.size_drew, size_drewN']; omega) | go_size))⟩
          · have HD : Hid (codeF f = 0) := H0'.out hb0
            rw [hb0] at K
            have K := Lib.hid K
            clear hb0
            go_wp2_with fail
            refine K.out.mono ?_
            rintro e w3 ⟨rfl, hb3⟩
            go_wp2
            go_ret
            exact ⟨by rw [HD.out]; rfl, (by have z0 := Below.size hb; have z1 := Below.size hb3; (try simp only [World.size_alloc, World.size_setCell, World.size_drew, size_drewN'] at z0 z1 ⊢; skip); repeat' (first | (with_reducible exact Below.refl _ _) | (with_reducible assumption) | (with_reducible refine Below.alloc ?_ ?_ _) | (with_reducible refine Below.drew ?_) | (with_reducible refine below_drewN ?_ _) | (with_reducible refine Below.setCell ?_ ?_ _) | (with_reducible refine Below.trans ?_ (Below.mono (by with_reducible assumption) ?_)) | omega | (simp only [World.size_alloc, World.size_setCell, World.size_drew, size_drewN']; omega) | go_size))⟩
  · have HV : Hid (codeF f = 3) := codeF_3 h1
    by_cases h0 : f.vars < 0
    · clear h1
      go_enter Try.func103, Try.ntmps103
      go_wp2
      go_ret
      exact ⟨by rw [HV.out]; rfl, (by (skip); repeat' (first | (with_reducible exact Below.refl _ _) | (with_reducible assumption) | (with_reducible refine Below.alloc ?_ ?_ _) | (with_reducible refine Below.drew ?_) | (with_reducible refine below_drewN ?_ _) | (with_reducible refine Below.setCell ?_ ?_ _) | (with_reducible refine Below.trans ?_ (Below.mono (by with_reducible assumption) ?_)) | omega | (simp only [World.size_alloc, World.size_setCell, World.size_drew, size_drewN']; omega) | go_size))⟩
    · have h2 : 24 < f.vars := by omega
      clear h1
      go_enter Try.func103, Try.ntmps103
      go_wp2
      go_ret
      exact ⟨by rw [HV.out]; rfl, (by (skip); repeat' (first | (with_reducible exact Below.refl _ _) | (with_reducible assumption) | (with_reducible refine Below.alloc ?_ ?_ _) | (with_reducible refine Below.drew ?_) | (with_reducible refine below_drewN ?_ _) | (with_reducible refine Below.setCell ?_ ?_ _) | (with_reducible refine Below.trans ?_ (Below.mono (by with_reducible assumption) ?_)) | omega | (simp only [World.size_alloc, World.size_setCell, World.size_drew, size_drewN']; omega) | go_size))⟩
end
section
variable {w : World} {A : Option Addr} {c : Nat} {f : FrR}
set_option maxHeartbeats 4000000 in
theorem rcheck08_any (h : FrI w A f) (ht : f.top ≤ 9223372036854775807) :
    Calls Try.prog 97 #[fv f.vars A f.nn c f.top] w fun e w' => e = .returned (.int .i64 (codeF f)) ∧ Below w.heap.size w w' := by
  by_cases h1 : 0 ≤ f.vars ∧ f.vars ≤ 24
  · obtain ⟨v0, v1⟩ := h1
    by_cases hn : 128 < f.nn
    · have HV : Hid (codeF f = 4) := codeF_4 ⟨v0, v1⟩ hn
      have a0 : ¬ f.vars < 0 := by omega
      have a1 : ¬ 24 < f.vars := by omega
      go_enter Try.func97, Try.ntmps97
      go_wp2
      go_ret
      exact ⟨by rw [HV.out]; rfl, (by (skip); repeat' (first | (with_reducible exact Below.refl _ _) | (with_reducible assumption) | (with_reducible refine Below.alloc ?_ ?_ _) | (with_reducible refine Below.drew ?_) | (with_reducible refine below_drewN ?_ _) | (with_reducible refine Below.setCell ?_ ?_ _) | (with_reducible refine Below.trans ?_ (Below.mono (by with_reducible assumption) ?_)) | omega | (simp only [World.size_alloc, World.size_setCell, World.size_drew, size_drewN']; omega) | go_size))⟩
    · have a0 : ¬ f.vars < 0 := by omega
      have a1 : ¬ 24 < f.vars := by omega
      have HN : Hid (ndsC f 0 f.nn ≠ 0 → codeF f = ndsC f 0 f.nn) := codeF_n ⟨v0, v1⟩ hn
      have HT : Hid (ndsC f 0 f.nn = 0 → topB f = false → codeF f = 10) := codeF_10 ⟨v0, v1⟩ hn
      have H0 : Hid (ndsC f 0 f.nn = 0 → topB f = true → codeF f = 0) := codeF_0 ⟨v0, v1⟩ hn
      go_enter Try.func97, Try.ntmps97
      go_wp2
      go_loopw [20] (fun j wr => ∃ k : Nat, k ≤ f.nn ∧ j = .int .i64 k ∧ ndsC f 0 f.nn = ndsC f k (f.nn - k) ∧ Below w.heap.size w wr ∧ w.heap.size < wr.heap.size ∧ wr.cell? ⟨w.heap.size, 0, none⟩ = some (.int .i64 f.vars) ∧ wr.cell? ⟨w.heap.size, 1, none⟩ = some (.slice A f.nn c) ∧ wr.cell? ⟨w.heap.size, 2, none⟩ = some (.int .i64 f.top)) (fun j _ => f.nn - (intOf j).toNat)
      case atStart => exact ⟨0, Nat.zero_le _, rfl, by simp, (by (skip); repeat' (first | (with_reducible exact Below.refl _ _) | (with_reducible assumption) | (with_reducible refine Below.alloc ?_ ?_ _) | (with_reducible refine Below.drew ?_) | (with_reducible refine below_drewN ?_ _) | (with_reducible refine Below.setCell ?_ ?_ _) | (with_reducible refine Below.trans ?_ (Below.mono (by with_reducible assumption) ?_)) | omega | (simp only [World.size_alloc, World.size_setCell, World.size_drew, size_drewN']; omega) | go_size)), by simp, by simp [go_sem], by simp [go_sem], by simp [go_sem]⟩
      case round =>
        obtain ⟨k, hk, rfl, hs, hb, hz, x0, x1, x2⟩ := hrel
        have HS := Lib.hid hs
        clear hs
        obtain ⟨wo, rfl⟩ : ∃ wo : World, wo = wr := ⟨_, rfl⟩
        by_cases hkn : k < f.nn
        · by_cases hd : ndC (f.vars + k) (f.kd k) (f.kk k) (f.ar k) = 0
          · have HX := Lib.hid (ndsC_step hkn hd)
            have K := Lib.hid (fun W (hW : Below wo.heap.size wo W) => show Calls Try.prog 124 #[fv f.vars A f.nn c f.top, .int .i64 (k : Int)] W (fun e w' => e = .returned (.int .i64 0) ∧ Below W.heap.size W w') from by have := rnode_any (c := c) ((h.on hb (Nat.le_refl _)).below hW) hkn v0 v1 (by omega); rwa [hd] at this)
            clear hd
            go_wp2_with fail
            refine (K.out _ (by (skip); repeat' (first | (with_reducible exact Below.refl _ _) | (with_reducible assumption) | (with_reducible refine Below.alloc ?_ ?_ _) | (with_reducible refine Below.drew ?_) | (with_reducible refine below_drewN ?_ _) | (with_reducible refine Below.setCell ?_ ?_ _) | (with_reducible refine Below.trans ?_ (Below.mono (by with_reducible assumption) ?_)) | omega | (simp only [World.size_alloc, World.size_setCell, World.size_drew, size_drewN']; omega) | go_size))).mono ?_
            rintro e w3 ⟨rfl, hb3⟩
            have hb3z := hb3.size
            have y := fun o => below_at hb3 w.heap.size o hz
            go_wp2
            go_roundw
            case rel => exact ⟨k + 1, by omega, by go_num, by rw [HS.out, HX.out], (by have z0 := Below.size hb; have z1 := Below.size hb3; (try simp only [World.size_alloc, World.size_setCell, World.size_drew, size_drewN'] at z0 z1 ⊢; skip); repeat' (first | (with_reducible exact Below.refl _ _) | (with_reducible assumption) | (with_reducible refine Below.alloc ?_ ?_ _) | (with_reducible refine Below.drew ?_) | (with_reducible refine below_drewN ?_ _) | (with_reducible refine Below.setCell ?_ ?_ _) | (with_reducible refine Below.trans ?_ (Below.mono (by with_reducible assumption) ?_)) | omega | (simp only [World.size_alloc, World.size_setCell, World.size_drew, size_drewN']; omega) | go_size)), by omega, (y 0).trans x0, (y 1).trans x1, (y 2).trans x2⟩
            case measure => simp [intOf]; omega
          · have HX := Lib.hid (ndsC_stop hkn hd)
            have K := Lib.hid (fun W (hW : Below wo.heap.size wo W) => rnode_any (c := c) ((h.on hb (Nat.le_refl _)).below hW) hkn v0 v1 (by omega))
            have HD : Hid (codeF f = ndC (f.vars + k) (f.kd k) (f.kk k) (f.ar k)) := by show _ = _; rw [← HX.out, ← HS.out]; exact HN.out (by rw [HS.out, HX.out]; exact hd)
            have HZ : Hid (Ending.returned (.int .i64 (ndC (f.vars + k) (f.kd k) (f.kk k) (f.ar k))) = .returned (.int .i64 (ndC (f.vars + k) (f.kd k) (f.kk k) (f.ar k)))) := rfl
            have hd2 : (ndC (f.vars + k) (f.kd k) (f.kk k) (f.ar k) != 0) = true := by simpa using hd
            clear hd HX HN HT H0 HS
            generalize ndC (f.vars + k) (f.kd k) (f.kk k) (f.ar k) = z at *
            go_wp2_with fail
            refine (K.out _ (by (skip); repeat' (first | (with_reducible exact Below.refl _ _) | (with_reducible assumption) | (with_reducible refine Below.alloc ?_ ?_ _) | (with_reducible refine Below.drew ?_) | (with_reducible refine below_drewN ?_ _) | (with_reducible refine Below.setCell ?_ ?_ _) | (with_reducible refine Below.trans ?_ (Below.mono (by with_reducible assumption) ?_)) | omega | (simp only [World.size_alloc, World.size_setCell, World.size_drew, size_drewN']; omega) | go_size))).mono ?_
            rintro e w3 ⟨rfl, hb3⟩
            go_wp2
            go_ret
            exact ⟨by rw [HD.out]; first | exact HZ.out | rfl, (by have z0 := Below.size hb; have z1 := Below.size hb3; (try simp only [World.size_alloc, World.size_setCell, World.size_drew, size_drewN'] at z0 z1 ⊢; skip); repeat' (first | (with_reducible exact Below.refl _ _) | (with_reducible assumption) | (with_reducible refine Below.alloc ?_ ?_ _) | (with_reducible refine Below.drew ?_) | (with_reducible refine below_drewN ?_ _) | (with_reducible refine Below.setCell ?_ ?_ _) | (with_reducible refine Below.trans ?_ (Below.mono (by with_reducible assumption) ?_)) | omega | (simp only [World.size_alloc, World.size_setCell, World.size_drew, size_drewN']; omega) | go_size))⟩
        · have hz0 : ndsC f 0 f.nn = 0 := by rw [HS.out, show f.nn - k = 0 by omega]; rfl
          have K := rvalid08_any wo f.vars f.top A f.nn c f.top v0 v1 (by omega) ht
          change Calls Try.prog 125 _ _ (fun e w' => e = .returned (.bool (topB f)) ∧ Below wo.heap.size wo w') at K
          have HT' := Lib.hid (HT.out hz0)
          have H0' := Lib.hid (H0.out hz0)
          clear HT H0 HN HS hz0
          cases hb0 : topB f
          · have HD : Hid (codeF f = 10) := HT'.out hb0
            rw [hb0] at K
            have K := Lib.hid K
            clear hb0
            go_wp2_with fail
            refine K.out.mono ?_
            rintro e w3 ⟨rfl, hb3⟩
            go_wp2
            go_ret
            exact ⟨by rw [HD.out]; rfl, (by have z0 := Below.size hb; have z1 := Below.size hb3; (try simp only [World.size_alloc, World.size_setCell, World.size_drew, size_drewN'] at z0 z1 ⊢; skip); repeat' (first | (with_reducible exact Below.refl _ _) | (with_reducible assumption) | (with_reducible refine Below.alloc ?_ ?_ _) | (with_reducible refine Below.drew ?_) | (with_reducible refine below_drewN ?_ _) | (with_reducible refine Below.setCell ?_ ?_ _) | (with_reducible refine Below.trans ?_ (Below.mono (by with_reducible assumption) ?_)) | omega | (simp only [World.size_alloc, World.size_setCell, World.size_drew, size_drewN']; omega) | go_size))⟩
          · have HD : Hid (codeF f = 0) := H0'.out hb0
            rw [hb0] at K
            have K := Lib.hid K
            clear hb0
            go_wp2_with fail
            refine K.out.mono ?_
            rintro e w3 ⟨rfl, hb3⟩
            go_wp2
            go_ret
            exact ⟨by rw [HD.out]; rfl, (by have z0 := Below.size hb; have z1 := Below.size hb3; (try simp only [World.size_alloc, World.size_setCell, World.size_drew, size_drewN'] at z0 z1 ⊢; skip); repeat' (first | (with_reducible exact Below.refl _ _) | (with_reducible assumption) | (with_reducible refine Below.alloc ?_ ?_ _) | (with_reducible refine Below.drew ?_) | (with_reducible refine below_drewN ?_ _) | (with_reducible refine Below.setCell ?_ ?_ _) | (with_reducible refine Below.trans ?_ (Below.mono (by with_reducible assumption) ?_)) | omega | (simp only [World.size_alloc, World.size_setCell, World.size_drew, size_drewN']; omega) | go_size))⟩
  · have HV : Hid (codeF f = 3) := codeF_3 h1
    by_cases h0 : f.vars < 0
    · clear h1
      go_enter Try.func97, Try.ntmps97
      go_wp2
      go_ret
      exact ⟨by rw [HV.out]; rfl, (by (skip); repeat' (first | (with_reducible exact Below.refl _ _) | (with_reducible assumption) | (with_reducible refine Below.alloc ?_ ?_ _) | (with_reducible refine Below.drew ?_) | (with_reducible refine below_drewN ?_ _) | (with_reducible refine Below.setCell ?_ ?_ _) | (with_reducible refine Below.trans ?_ (Below.mono (by with_reducible assumption) ?_)) | omega | (simp only [World.size_alloc, World.size_setCell, World.size_drew, size_drewN']; omega) | go_size))⟩
    · have h2 : 24 < f.vars := by omega
      clear h1
      go_enter Try.func97, Try.ntmps97
      go_wp2
      go_ret
      exact ⟨by rw [HV.out]; rfl, (by (skip); repeat' (first | (with_reducible exact Below.refl _ _) | (with_reducible assumption) | (with_reducible refine Below.alloc ?_ ?_ _) | (with_reducible refine Below.drew ?_) | (with_reducible refine below_drewN ?_ _) | (with_reducible refine Below.setCell ?_ ?_ _) | (with_reducible refine Below.trans ?_ (Below.mono (by with_reducible assumption) ?_)) | omega | (simp only [World.size_alloc, World.size_setCell, World.size_drew, size_drewN']; omega) | go_size))⟩
end
end Go.Proofs.Ytedopalmfakeaaa
