/- Contracts of functions and lemmas, used by the proofs of the given statements. No condition beyond those that each lemma names. -/
import Derived.Test.YtedopalmfakeaaaCubeW6
namespace Go.Proofs.Ytedopalmfakeaaa
open Go.RowKit
set_option linter.unusedSimpArgs false
set_option linter.unusedVariables false
/-! ## Same -/
theorem take_eq_succ {α : Type} {l m : List α} {k : Nat} (h1 : k < l.length) (h2 : k < m.length) (h : l.take k = m.take k) (he : l[k] = m[k]) : l.take (k + 1) = m.take (k + 1) := by
  rw [List.take_succ_eq_append_getElem h1, List.take_succ_eq_append_getElem h2, h, he]
set_option maxHeartbeats 400000 in
theorem same_any (A1 A2 : Option Addr) (l1 l2 : List Cb) (c1 c2 : Nat) (w : World) (hl1 : l1.length ≤ 140737488355328) (hl2 : l2.length ≤ 140737488355328) (h1 : RdC w w.heap.size A1 l1) (h2 : RdC w w.heap.size A2 l2) :
    Calls Try.prog 34 #[.slice A1 l1.length c1, .slice A2 l2.length c2] w fun e w' => e = .returned (.bool (decide (l1 = l2))) ∧ Below w.heap.size w w' := by
  by_cases hlen : l1.length = l2.length
  · have hne : ((l1.length : Int) != (l2.length : Int)) = false := by simp [hlen]
    have HL := Lib.hid hlen
    clear hlen
    go_enter Try.func34, Try.ntmps34
    go_wp2
    go_loopw [5] (fun i wr => ∃ k : Nat, k ≤ l1.length ∧ i = .int .i64 k ∧ l1.take k = l2.take k ∧ Below w.heap.size w wr) (fun i _ => l1.length - (intOf i).toNat)
    case atStart => exact ⟨0, Nat.zero_le _, rfl, by simp, Below.refl _ _⟩
    case round =>
      obtain ⟨k, hk, rfl, htk, hb⟩ := hrel
      have HT := Lib.hid htk
      clear htk
      by_cases hlt : k < l1.length
      · have hlt2 : k < l2.length := by have := HL.out; omega
        obtain ⟨b, off, rfl, hbb, c0, c1⟩ := (h1.below hb).at_ (List.getElem?_eq_getElem hlt)
        obtain ⟨b', off', rfl, hbb', d0, d1⟩ := (h2.below hb).at_ (List.getElem?_eq_getElem hlt2)
        have HE : Hid (l1[k] = l2[k] → l1.take (k + 1) = l2.take (k + 1)) := take_eq_succ hlt hlt2 HT.out
        have HN : Hid (l1[k] ≠ l2[k] → l1 ≠ l2) := fun hn he => hn (by subst he; rfl)
        generalize l1[k] = c at *
        generalize l2[k] = d at *
        obtain ⟨x, y⟩ := c
        obtain ⟨x', y'⟩ := d
        dsimp only at c0 c1 d0 d1
        by_cases hx : x = x'
        · by_cases hy : y = y'
          · subst hx
            subst hy
            go_wp2
            go_quiet (fail)
            go_wp2
            go_roundw
            case rel => exact ⟨k + 1, by omega, by go_num, HE.out (by simp), (by have z0 := Below.size hb; (try simp only [World.size_alloc, World.size_setCell, World.size_drew, size_drewN'] at z0 ⊢; skip); repeat' (first | (with_reducible exact Below.refl _ _) | (with_reducible assumption) | (with_reducible refine Below.alloc ?_ ?_ _) | (with_reducible refine Below.drew ?_) | (with_reducible refine below_drewN ?_ _) | (with_reducible refine Below.setCell ?_ ?_ _) | (with_reducible refine Below.trans ?_ (Below.mono (by with_reducible assumption) ?_)) | omega | (simp only [World.size_alloc, World.size_setCell, World.size_drew, size_drewN']; omega) | go_size))⟩
            case measure => simp [intOf]; omega
          · have hy' : (y == y') = false := by simp [hy]
            subst hx
            go_wp2
            go_quiet (fail)
            go_wp2
            go_ret
            exact ⟨ret_bool (by simp [HN.out (by simp [hy])]), (by have z0 := Below.size hb; (try simp only [World.size_alloc, World.size_setCell, World.size_drew, size_drewN'] at z0 ⊢; skip); repeat' (first | (with_reducible exact Below.refl _ _) | (with_reducible assumption) | (with_reducible refine Below.alloc ?_ ?_ _) | (with_reducible refine Below.drew ?_) | (with_reducible refine below_drewN ?_ _) | (with_reducible refine Below.setCell ?_ ?_ _) | (with_reducible refine Below.trans ?_ (Below.mono (by with_reducible assumption) ?_)) | omega | (simp only [World.size_alloc, World.size_setCell, World.size_drew, size_drewN']; omega) | go_size))⟩
        · have hx' : (x == x') = false := by simp [hx]
          go_wp2
          go_quiet (fail)
          go_wp2
          go_ret
          exact ⟨ret_bool (by simp [HN.out (by simp [hx])]), (by have z0 := Below.size hb; (try simp only [World.size_alloc, World.size_setCell, World.size_drew, size_drewN'] at z0 ⊢; skip); repeat' (first | (with_reducible exact Below.refl _ _) | (with_reducible assumption) | (with_reducible refine Below.alloc ?_ ?_ _) | (with_reducible refine Below.drew ?_) | (with_reducible refine below_drewN ?_ _) | (with_reducible refine Below.setCell ?_ ?_ _) | (with_reducible refine Below.trans ?_ (Below.mono (by with_reducible assumption) ?_)) | omega | (simp only [World.size_alloc, World.size_setCell, World.size_drew, size_drewN']; omega) | go_size))⟩
      · have hE : l1 = l2 := by
          have a := HT.out
          have b := HL.out
          rwa [List.take_of_length_le (by omega), List.take_of_length_le (by omega)] at a
        have HE := Lib.hid hE
        clear hE
        go_wp2
        go_ret
        exact ⟨ret_bool (by simp [HE.out]), hb⟩
  · have hne : ((l1.length : Int) != (l2.length : Int)) = true := by rw [bne_iff_ne]; omega
    have HN : Hid (l1 ≠ l2) := fun he => hlen (by rw [he])
    clear hlen
    go_enter Try.func34, Try.ntmps34
    go_wp2
    go_ret
    exact ⟨ret_bool (by simp [HN.out]), Below.refl _ _⟩
theorem same_at (A1 A2 : Option Addr) (l1 l2 : List Cb) (n1 n2 c1 c2 : Nat) (w : World) (e1 : l1.length = n1) (e2 : l2.length = n2) (hl1 : n1 ≤ 140737488355328) (hl2 : n2 ≤ 140737488355328) (h1 : RdC w w.heap.size A1 l1) (h2 : RdC w w.heap.size A2 l2) :
    Calls Try.prog 34 #[.slice A1 n1 c1, .slice A2 n2 c2] w fun e w' => e = .returned (.bool (decide (l1 = l2))) ∧ Below w.heap.size w w' := by
  subst e1
  subst e2
  exact same_any A1 A2 l1 l2 c1 c2 w hl1 hl2 h1 h2
/-! ## in how many cubes of a list a state is -/
def inN (l : List Cn) (s : Nat) : Nat := (l.filter fun c => hoN c s).length
theorem inN_succ (l : List Cn) (s k : Nat) (h : k < l.length) : inN (l.take (k + 1)) s = inN (l.take k) s + (if hoN l[k] s then 1 else 0) := by
  unfold inN
  rw [List.take_succ_eq_append_getElem h, List.filter_append, List.length_append]
  congr 1
  cases hh : hoN l[k] s <;> simp [hh]
theorem inN_le (l : List Cn) (s : Nat) : inN l s ≤ l.length := List.length_filter_le _ _
set_option maxHeartbeats 400000 in
theorem in_any (A : Option Addr) (l : List Cn) (c s n : Nat) (w : World) (hn : n = l.length) (hl : l.length ≤ 140737488355328) (hok : ∀ a ∈ l, okN a) (hs : s < 16777216) (h : RdC w w.heap.size A (l.map zc)) :
    Calls Try.prog 27 #[.slice A n c, .int .i64 (s : Int)] w fun e w' => e = .returned (.int .i64 (inN l s : Nat)) ∧ Below w.heap.size w w' := by
  subst hn
  go_enter Try.func27, Try.ntmps27
  go_wp2
  go_loopw [5, 6] (fun q i wr => ∃ k : Nat, k ≤ l.length ∧ i = .int .i64 k ∧ q = .int .i64 (inN (l.take k) s : Nat) ∧ Below w.heap.size w wr) (fun _ i _ => l.length - (intOf i).toNat)
  case atStart => exact ⟨0, Nat.zero_le _, rfl, rfl, Below.refl _ _⟩
  case round =>
    obtain ⟨k, hk, rfl, rfl, hb⟩ := hrel
    by_cases hlt : k < l.length
    · obtain ⟨b, off, rfl, hbb, c0, c1⟩ := (h.below hb).at_ (k := k) (c := zc l[k]) (by simp [hlt])
      have hq := inN_le (l.take k) s
      have hq2 : (l.take k).length = k := by simp; omega
      have HS := Lib.hid (inN_succ l s k hlt)
      have hcok := hok l[k] (List.getElem_mem _)
      generalize inN (l.take k) s = q at *
      generalize hcE : l[k] = d at *
      clear hcE
      by_cases hh : hoN d s = true
      · go_wp2_with (go_at_call 24; (with_reducible refine (refHolds_ok d s hcok hs _).mono ?_); rintro e w1 ⟨rfl, hb1⟩; obtain ⟨hb1c, hb1f⟩ := bcell hb1; have hb1z := Below.size hb1; try simp only [World.size_alloc, World.size_setCell, World.size_drew] at hb1z)
        go_roundw
        case rel => exact ⟨k + 1, by omega, by go_num, by rw [HS.out, if_pos hh]; go_num, (by have z0 := Below.size hb; have z1 := Below.size hb1; (try simp only [World.size_alloc, World.size_setCell, World.size_drew, size_drewN'] at z0 z1 ⊢; skip); repeat' (first | (with_reducible exact Below.refl _ _) | (with_reducible assumption) | (with_reducible refine Below.alloc ?_ ?_ _) | (with_reducible refine Below.drew ?_) | (with_reducible refine below_drewN ?_ _) | (with_reducible refine Below.setCell ?_ ?_ _) | (with_reducible refine Below.trans ?_ (Below.mono (by with_reducible assumption) ?_)) | omega | (simp only [World.size_alloc, World.size_setCell, World.size_drew, size_drewN']; omega) | go_size))⟩
        case measure => simp [intOf]; omega
      · have hh' : hoN d s = false := by simpa using hh
        go_wp2_with (go_at_call 24; (with_reducible refine (refHolds_ok d s hcok hs _).mono ?_); rintro e w1 ⟨rfl, hb1⟩; obtain ⟨hb1c, hb1f⟩ := bcell hb1; have hb1z := Below.size hb1; try simp only [World.size_alloc, World.size_setCell, World.size_drew] at hb1z)
        go_roundw
        case rel => exact ⟨k + 1, by omega, by go_num, by rw [HS.out, if_neg hh]; go_num, (by have z0 := Below.size hb; have z1 := Below.size hb1; (try simp only [World.size_alloc, World.size_setCell, World.size_drew, size_drewN'] at z0 z1 ⊢; skip); repeat' (first | (with_reducible exact Below.refl _ _) | (with_reducible assumption) | (with_reducible refine Below.alloc ?_ ?_ _) | (with_reducible refine Below.drew ?_) | (with_reducible refine below_drewN ?_ _) | (with_reducible refine Below.setCell ?_ ?_ _) | (with_reducible refine Below.trans ?_ (Below.mono (by with_reducible assumption) ?_)) | omega | (simp only [World.size_alloc, World.size_setCell, World.size_drew, size_drewN']; omega) | go_size))⟩
        case measure => simp [intOf]; omega
    · have hE : l.take k = l := List.take_of_length_le (by omega)
      rw [hE]
      clear hE
      go_wp2
      go_ret
      exact ⟨rfl, hb⟩
/-! ## both, Minus -/
theorem both_any (a b : Cb) (w : World) : Calls Try.prog 25 #[cbv a, cbv b] w fun e w' => e = .returned (.int .i64 (chk2 a b)) ∧ Below w.heap.size w w' := by
  by_cases h : chk a = 0
  · have HE : Hid (chk2 a b = chk b) := by
      show chkL [a, b] = _
      simp only [chkL]
      rw [if_pos h]
      by_cases h2 : chk b = 0
      · rw [if_pos h2, h2]
      · rw [if_neg h2]
    go_enter Try.func25, Try.ntmps25
    go_wp2_with fail
    refine (refCheck_any a _).mono ?_
    rintro e w1 ⟨rfl, hb1⟩
    rw [h]
    obtain ⟨hb1c, hb1f⟩ := bcell hb1
    go_wp2_with fail
    refine (refCheck_any b _).mono ?_
    rintro e w2 ⟨rfl, hb2⟩
    go_wp2
    go_ret
    exact ⟨by rw [HE.out]; rfl, (by have z0 := Below.size hb1; have z1 := Below.size hb2; (try simp only [World.size_alloc, World.size_setCell, World.size_drew, size_drewN'] at z0 z1 ⊢; skip); repeat' (first | (with_reducible exact Below.refl _ _) | (with_reducible assumption) | (with_reducible refine Below.alloc ?_ ?_ _) | (with_reducible refine Below.drew ?_) | (with_reducible refine below_drewN ?_ _) | (with_reducible refine Below.setCell ?_ ?_ _) | (with_reducible refine Below.trans ?_ (Below.mono (by with_reducible assumption) ?_)) | omega | (simp only [World.size_alloc, World.size_setCell, World.size_drew, size_drewN']; omega) | go_size))⟩
  · have HE : Hid (chk2 a b = chk a) := by
      show chkL [a, b] = _
      simp only [chkL]
      rw [if_neg h]
    have hne : (chk a != 0) = true := by rw [bne_iff_ne]; exact h
    go_enter Try.func25, Try.ntmps25
    go_wp2_with (go_at_call 19; (with_reducible refine (refCheck_any a _).mono ?_); rintro e w1 ⟨rfl, hb1⟩; obtain ⟨hb1c, hb1f⟩ := bcell hb1; have hb1z := Below.size hb1; try simp only [World.size_alloc, World.size_setCell, World.size_drew] at hb1z)
    go_ret
    exact ⟨by rw [HE.out]; rfl, (by have z0 := Below.size hb1; (try simp only [World.size_alloc, World.size_setCell, World.size_drew, size_drewN'] at z0 ⊢; skip); repeat' (first | (with_reducible exact Below.refl _ _) | (with_reducible assumption) | (with_reducible refine Below.alloc ?_ ?_ _) | (with_reducible refine Below.drew ?_) | (with_reducible refine below_drewN ?_ _) | (with_reducible refine Below.setCell ?_ ?_ _) | (with_reducible refine Below.trans ?_ (Below.mono (by with_reducible assumption) ?_)) | omega | (simp only [World.size_alloc, World.size_setCell, World.size_drew, size_drewN']; omega) | go_size))⟩
set_option maxHeartbeats 400000 in
theorem minusX_bad (a b : Cb) (h : chk2 a b ≠ 0) (w : World) : Calls Try.prog 26 #[cbv a, cbv b] w fun e w' => e = .returned (.tuple #[.slice none 0 0, erV (chk2 a b)]) ∧ Below w.heap.size w w' := by
  have HH := Lib.hid h
  clear h
  go_enter Try.func26, Try.ntmps26
  go_wp2_with (go_at_call 72; (with_reducible refine (both_no a b HH.out _ _ (by simp) _).mono ?_); rintro e w1 ⟨rfl, hb1⟩; obtain ⟨hb1c, hb1f⟩ := bcell hb1; have hb1z := Below.size hb1; try simp only [World.size_alloc, World.size_setCell, World.size_drew] at hb1z)
  go_returns
  exact ⟨rfl, (by have z0 := Below.size hb1; (try simp only [World.size_alloc, World.size_setCell, World.size_drew, size_drewN'] at z0 ⊢; skip); repeat' (first | (with_reducible exact Below.refl _ _) | (with_reducible assumption) | (with_reducible refine Below.alloc ?_ ?_ _) | (with_reducible refine Below.drew ?_) | (with_reducible refine below_drewN ?_ _) | (with_reducible refine Below.setCell ?_ ?_ _) | (with_reducible refine Below.trans ?_ (Below.mono (by with_reducible assumption) ?_)) | omega | (simp only [World.size_alloc, World.size_setCell, World.size_drew, size_drewN']; omega) | go_size))⟩
set_option maxHeartbeats 400000 in
theorem minusX_ok (a b : Cn) (ha : okN a) (hb : okN b) (w : World) : Calls Try.prog 26 #[cbv (zc a), cbv (zc b)] w fun e w' => ∃ A c, e = .returned (.tuple #[.slice A (miN a b).length c, .nilIface]) ∧ OwC w' w.heap.size A c ((miN a b).map zc) ∧ Below w.heap.size w w' := by
  go_enter Try.func26, Try.ntmps26
  go_wp2_with (first | (go_at_call 72; (with_reducible refine (both_ok a b ha hb _ _ (by simp) _).mono ?_); rintro e w1 ⟨rfl, hb1⟩; obtain ⟨hb1c, hb1f⟩ := bcell hb1; have hb1z := Below.size hb1; try simp only [World.size_alloc, World.size_setCell, World.size_drew] at hb1z) | (go_at_call 73; (with_reducible refine (minus_any a b ha hb _).mono ?_); rintro e w2 ⟨A, c, rfl, own2, hb2⟩))
  go_returns
  exact ⟨A, c, rfl, own2.base_ (by omega), (by have z0 := Below.size hb1; have z1 := Below.size hb2; (try simp only [World.size_alloc, World.size_setCell, World.size_drew, size_drewN'] at z0 z1 ⊢; skip); repeat' (first | (with_reducible exact Below.refl _ _) | (with_reducible assumption) | (with_reducible refine Below.alloc ?_ ?_ _) | (with_reducible refine Below.drew ?_) | (with_reducible refine below_drewN ?_ _) | (with_reducible refine Below.setCell ?_ ?_ _) | (with_reducible refine Below.trans ?_ (Below.mono (by with_reducible assumption) ?_)) | omega | (simp only [World.size_alloc, World.size_setCell, World.size_drew, size_drewN']; omega) | go_size))⟩
end Go.Proofs.Ytedopalmfakeaaa
