/- Contracts of functions and lemmas, used by the proofs of the given statements. No condition beyond those that each lemma names. -/
import Derived.Test.YtedopalmfakeaaaJPrmN
import Derived.Test.YtedopalmfakeaaaPrW11
namespace Go.Proofs.Ytedopalmfakeaaa
open Go.RowKit Go.Sort
set_option linter.unusedSimpArgs false
set_option linter.unusedVariables false
set_option maxRecDepth 20000
/-! ## package prime: the method prime -/
attribute [local irreducible] pop popc
section
variable {w : World} {p n : Nat} {ev : Nat → Nat} {T : Nat → Bool} {c : Cn} {I : Cn → Bool}
theorem implicant_B (ht : TabI w p n ev T) (hn : n ≤ 12) (hev : ∀ k, k < n → ev k < 24) (hc : okN c) (hI : I c = true ↔ ImpR n ev T c) :
    Calls Try.prog 106 #[.pointer (some ⟨p, 0, none⟩), cbv (zc c)] w fun e w' => e = .returned (.bool (I c)) ∧ Below w.heap.size w w' := by
  refine (implicant_any ht hn hev hc).mono ?_
  rintro e w' ⟨⟨b, rfl, hb⟩, h⟩
  have : b = I c := by rw [Bool.eq_iff_iff, hb, hI]
  rw [this]
  exact ⟨rfl, h⟩
set_option maxHeartbeats 4000000 in
theorem prime_any (ht : TabI w p n ev T) (hn : n ≤ 12) (hev : ∀ k, k < n → ev k < 24) (hc : okN c) (hI : ∀ d, okN d → (I d = true ↔ ImpR n ev T d)) :
    Calls Try.prog 107 #[.pointer (some ⟨p, 0, none⟩), cbv (zc c)] w fun e w' => e = .returned (.bool (primeI I c)) ∧ Below w.heap.size w w' := by
  have K := Lib.hid (fun W (hW : Below w.heap.size w W) d (hd : okN d) => implicant_B (ht.below hW) hn hev hd (hI d hd))
  have HT := Lib.hid (fun (h : I c = true) (hk : ∀ j, j < 24 → ¬ ((evN c).testBit j = true ∧ I (cutN j c) = true)) => primeI_t h hk)
  have HF := Lib.hid (fun j (hj : j < 24) (h1 : (evN c).testBit j = true) (h2 : I (cutN j c) = true) => primeI_f hj h1 h2)
  have HN := Lib.hid (fun (h : I c = false) => primeI_n h)
  have HC := Lib.hid (fun j => cutN_ok hc j)
  have K0 := Lib.hid (fun W (hW : Below w.heap.size w W) => K.out W hW c hc)
  have hc1 := hc.1
  have hc2 := hc.2.1
  have hE := or_lt24 hc1 hc2
  generalize primeI I c = R at *
  obtain ⟨c1, c2⟩ := c
  have e1 := i64_or c1 c2 (Nat.lt_trans hc1 (by decide)) (Nat.lt_trans hc2 (by decide))
  have HE : Hid (evN (c1, c2) = c1 ||| c2) := rfl
  simp only at hc1 hc2 hE
  obtain ⟨E, hEe⟩ : ∃ E, c1 ||| c2 = E := ⟨_, rfl⟩
  rw [hEe] at HE hE e1
  clear ht hc hev hI hEe
  go_enter Try.func107, Try.ntmps107
  go_wp2_with fail
  refine (K0.out _ (by (skip); repeat' (first | (with_reducible exact Below.refl _ _) | (with_reducible assumption) | (with_reducible refine Below.alloc ?_ ?_ _) | (with_reducible refine Below.drew ?_) | (with_reducible refine below_drewN ?_ _) | (with_reducible refine Below.setCell ?_ ?_ _) | (with_reducible refine Below.trans ?_ (Below.mono (by with_reducible assumption) ?_)) | omega | (simp only [World.size_alloc, World.size_setCell, World.size_drew, size_drewN']; omega) | go_size))).mono ?_
  rintro e w1 ⟨rfl, hb1⟩
  have hb1z := hb1.size
  simp only [World.size_alloc] at hb1z
  have x0 : w1.cell? ⟨w.heap.size, 0, none⟩ = some (.int .i64 (c1 : Int)) := (below_at hb1 w.heap.size 0 (by simp)).trans (by simp [go_sem])
  have x1 : w1.cell? ⟨w.heap.size, 1, none⟩ = some (.int .i64 (c2 : Int)) := (below_at hb1 w.heap.size 1 (by simp)).trans (by simp [go_sem])
  have hbA : Below w.heap.size w w1 := (by have z0 := Below.size hb1; (try simp only [World.size_alloc, World.size_setCell, World.size_drew, size_drewN'] at z0 ⊢; skip); repeat' (first | (with_reducible exact Below.refl _ _) | (with_reducible assumption) | (with_reducible refine Below.alloc ?_ ?_ _) | (with_reducible refine Below.drew ?_) | (with_reducible refine below_drewN ?_ _) | (with_reducible refine Below.setCell ?_ ?_ _) | (with_reducible refine Below.trans ?_ (Below.mono (by with_reducible assumption) ?_)) | omega | (simp only [World.size_alloc, World.size_setCell, World.size_drew, size_drewN']; omega) | go_size))
  clear hb1
  cases hI0 : I (c1, c2)
  · have HR := Lib.hid (HN.out hI0)
    clear HN HF HT
    go_wp2_with fail
    go_returns
    exact ⟨by rw [HR.out]; rfl, hbA⟩
  · have HT1 := Lib.hid (HT.out hI0)
    clear HN HT
    go_wp2_with fail
    go_loopw [10] (fun i wr => ∃ k : Nat, k ≤ 24 ∧ i = .int .i64 k ∧ (∀ j, j < k → ¬ ((evN (c1, c2)).testBit j = true ∧ I (cutN j (c1, c2)) = true)) ∧ Below w1.heap.size w1 wr) (fun i _ => 24 - (intOf i).toNat)
    case atStart => exact ⟨0, Nat.zero_le _, rfl, fun j hj => by omega, Below.refl _ _⟩
    case round =>
      obtain ⟨k, hk, rfl, hno, hb⟩ := hrel
      have HNO := Lib.hid hno
      clear hno hI0
      obtain ⟨wo, rfl⟩ : ∃ wo : World, wo = wr := ⟨_, rfl⟩
      have hbz := hb.size
      have y0 := (below_at hb w.heap.size 0 (by omega)).trans x0
      have y1 := (below_at hb w.heap.size 1 (by omega)).trans x1
      have hbW : Below w.heap.size w wo := hbA.trans (hb.mono (by omega))
      by_cases hk24 : k < 24
      · have t1 := shr_eq E k
        have hq : E / 2 ^ k < 16777216 := Nat.lt_of_le_of_lt (Nat.div_le_self _ _) hE
        have t2 : bits .and .i64 ((E / 2 ^ k : Nat) : Int) 1 = ((E / 2 ^ k % 2 : Nat) : Int) := by
          have := i64_and (E / 2 ^ k) 1 (by omega) (by omega)
          rw [Nat.and_one_is_mod] at this
          exact this
        rw [bit_div] at t2
        have HB : Hid ((evN (c1, c2)).testBit k = E.testBit k) := by show _ = _; rw [HE.out]
        cases hbk : E.testBit k
        · rw [hbk] at t2 HB
          have t3 : bits .and .i64 ((E / 2 ^ k : Nat) : Int) 1 = 0 := t2
          have HN2 : Hid (∀ j, j < k + 1 → ¬ ((evN (c1, c2)).testBit j = true ∧ I (cutN j (c1, c2)) = true)) := fun j hj ⟨h1, h2⟩ => by
            rcases Nat.lt_or_ge j k with h | h
            · exact HNO.out j h ⟨h1, h2⟩
            · have : j = k := by omega
              subst this
              rw [HB.out] at h1; simp at h1
          clear hbk t2 HB HF HT1 HNO
          generalize E / 2 ^ k = r1 at *
          have f0 := fun y : Sub wo => y.cell y0
          have f1 := fun y : Sub wo => y.cell y1
          go_wp2
          ((refine wp_region_quiet_bel (by kernel_rfl) (by kernel_rfl) ?_); (repeat (go_big_quiet_step (fail))); (refine wpQuiet_nil ?_); rintro w3 ⟨⟨_, hb3⟩, rfl⟩; (try dsimp only))
          go_wp2
          go_roundw
          case rel => exact ⟨k + 1, by omega, by go_num, HN2.out, (by have z0 := Below.size hb; have z1 := Below.size hb3; (try simp only [World.size_alloc, World.size_setCell, World.size_drew, size_drewN'] at z0 z1 ⊢; skip); repeat' (first | (with_reducible exact Below.refl _ _) | (with_reducible assumption) | (with_reducible refine Below.alloc ?_ ?_ _) | (with_reducible refine Below.drew ?_) | (with_reducible refine below_drewN ?_ _) | (with_reducible refine Below.setCell ?_ ?_ _) | (with_reducible refine Below.trans ?_ (Below.mono (by with_reducible assumption) ?_)) | omega | (simp only [World.size_alloc, World.size_setCell, World.size_drew, size_drewN']; omega) | go_size))⟩
          case measure => simp [intOf]; omega
        · rw [hbk] at t2 HB
          have t3 : bits .and .i64 ((E / 2 ^ k : Nat) : Int) 1 = 1 := t2
          have hpk := pow_lt24 hk24
          have s1 := shl_eq (k := k) (by clear t1 t2 t3 hq hpk; omega)
          have e3 := i64_andNot c1 (2 ^ k) (Nat.lt_trans hc1 (by decide)) (Nat.lt_trans hpk (by decide))
          have e4 := i64_andNot c2 (2 ^ k) (Nat.lt_trans hc2 (by decide)) (Nat.lt_trans hpk (by decide))
          have hd := HC.out k
          have HD : Hid (cutN k (c1, c2) = (ndiff c1 (2 ^ k), ndiff c2 (2 ^ k))) := rfl
          have HFk := Lib.hid (fun h => HF.out k hk24 HB.out h)
          have HN2 : Hid (I (cutN k (c1, c2)) = false → ∀ j, j < k + 1 → ¬ ((evN (c1, c2)).testBit j = true ∧ I (cutN j (c1, c2)) = true)) := fun h0 j hj ⟨h1, h2⟩ => by
            rcases Nat.lt_or_ge j k with h | h
            · exact HNO.out j h ⟨h1, h2⟩
            · have : j = k := by omega
              subst this
              rw [h0] at h2; simp at h2
          rw [HD.out] at hd HFk HN2
          clear hbk t2 HB HF HT1 HNO HD
          generalize E / 2 ^ k = r1 at *
          generalize ndiff c1 (2 ^ k) = d1 at *
          generalize ndiff c2 (2 ^ k) = d2 at *
          generalize 2 ^ k = pk at *
          have K1 := Lib.hid (fun W (hW : Below wo.heap.size wo W) => K.out W (hbW.trans (hW.mono (by omega))) (d1, d2) hd)
          have f0 := fun y : Sub wo => y.cell y0
          have f1 := fun y : Sub wo => y.cell y1
          clear K hd
          cases hId : I (d1, d2)
          · rw [hId] at K1
            have HN3 := Lib.hid (HN2.out hId)
            clear HN2 HFk hId
            go_wp2_with fail
            ((refine wp_region_quiet_bel (by kernel_rfl) (by kernel_rfl) ?_); (repeat (go_big_quiet_step ((go_at_call 106; with_reducible exact Calls.quiet_bel (K1.out _ (Sub.bel _)))))); (refine wpQuiet_nil ?_); rintro w3 ⟨⟨_, hb3⟩, rfl⟩; (try dsimp only))
            go_wp2_with fail
            go_roundw
            case rel => exact ⟨k + 1, by omega, by go_num, HN3.out, (by have z0 := Below.size hb; have z1 := Below.size hb3; (try simp only [World.size_alloc, World.size_setCell, World.size_drew, size_drewN'] at z0 z1 ⊢; skip); repeat' (first | (with_reducible exact Below.refl _ _) | (with_reducible assumption) | (with_reducible refine Below.alloc ?_ ?_ _) | (with_reducible refine Below.drew ?_) | (with_reducible refine below_drewN ?_ _) | (with_reducible refine Below.setCell ?_ ?_ _) | (with_reducible refine Below.trans ?_ (Below.mono (by with_reducible assumption) ?_)) | omega | (simp only [World.size_alloc, World.size_setCell, World.size_drew, size_drewN']; omega) | go_size))⟩
            case measure => simp [intOf]; omega
          · rw [hId] at K1
            have HR := Lib.hid (HFk.out hId)
            clear HN2 HFk hId
            go_wp2_with fail
            ((refine wp_region_quiet_bel (by kernel_rfl) (by kernel_rfl) ?_); (repeat (go_big_quiet_step ((go_at_call 106; with_reducible exact Calls.quiet_bel (K1.out _ (Sub.bel _)))))); (refine wpQuiet_nil ?_); rintro w3 ⟨⟨_, hb3⟩, rfl⟩; (try dsimp only))
            go_wp2_with fail
            go_returns
            exact ⟨by rw [HR.out]; rfl, (by have z0 := Below.size hbW; have z1 := Below.size hb3; (try simp only [World.size_alloc, World.size_setCell, World.size_drew, size_drewN'] at z0 z1 ⊢; skip); repeat' (first | (with_reducible exact Below.refl _ _) | (with_reducible assumption) | (with_reducible refine Below.alloc ?_ ?_ _) | (with_reducible refine Below.drew ?_) | (with_reducible refine below_drewN ?_ _) | (with_reducible refine Below.setCell ?_ ?_ _) | (with_reducible refine Below.trans ?_ (Below.mono (by with_reducible assumption) ?_)) | omega | (simp only [World.size_alloc, World.size_setCell, World.size_drew, size_drewN']; omega) | go_size))⟩
      · have HR := Lib.hid (HT1.out fun j hj => HNO.out j (by omega))
        clear HT1 HNO HF K
        go_wp2
        go_returns
        exact ⟨by rw [HR.out]; rfl, hbW⟩
end
end Go.Proofs.Ytedopalmfakeaaa
