/- Contracts of functions and lemmas, used by the proofs of the given statements. No condition beyond those that each lemma names. -/
import Derived.Test.YtedopalmfakeaaaFrmW5
import Derived.Test.YtedopalmfakeaaaJCubeW4
namespace Go.Proofs.Ytedopalmfakeaaa
open Go.RowKit
set_option linter.unusedSimpArgs false
set_option linter.unusedVariables false
set_option maxRecDepth 20000
/-! ## Support of both; the reference's values -/
def idN : Nat → Nat := fun k => k
def supF (g : Frm) : Nat := mskE idN g.mark g.vars
theorem msk_lt (p : Nat → Bool) : ∀ n, mskE idN p n < 2 ^ n
  | 0 => by simp [mskE]
  | n + 1 => by
    have ih := msk_lt p n
    have h2 : 2 ^ n < 2 ^ (n + 1) := Nat.pow_lt_pow_right (by omega) (by omega)
    rw [mskE]
    split
    · exact Nat.or_lt_two_pow (by omega) h2
    · omega
theorem msk_24 {p : Nat → Bool} {n : Nat} (hn : n ≤ 24) : mskE idN p n < 16777216 := Nat.lt_of_lt_of_le (msk_lt p n) (Nat.pow_le_pow_right (n := 2) (by omega) hn)
theorem supF_bit (g : Frm) (i : Nat) : (supF g).testBit i = true ↔ i < g.vars ∧ g.mark i = true := by
  unfold supF
  rw [mskE_bit]
  constructor
  · rintro ⟨k, h1, h2, h3⟩
    have : k = i := h3
    subst this
    exact ⟨h1, h2⟩
  · rintro ⟨h1, h2⟩
    exact ⟨i, h1, h2, rfl⟩
section
variable {w : World} {A : Option Addr} {c : Nat} {f : FrR}
set_option maxHeartbeats 4000000 in
theorem support_ok {v : Nat} (h : FrI w A f) (ok : FrOk f) (hv : f.vars = v) :
    Calls Try.prog 117 #[fv (v : Int) A f.nn c f.top] w fun e w' => e = .returned (.tuple #[.int .i64 (supF f.fr : Nat), .nilIface]) ∧ Below w.heap.size w w' := by
  have v1 : v ≤ 24 := by have := ok.v1; omega
  have n1 := ok.n1
  have htop : f.top ≤ 9223372036854775807 := by have := ok.t1; omega
  have hz := okF_code ok
  have K1 := Lib.hid (fun W (hW : Below w.heap.size w W) => (show Calls Try.prog 103 #[fv (v : Int) A f.nn c f.top] W (fun e w' => e = .returned .nilIface ∧ Below W.heap.size W w') from by
    have := fcheck_any (c := c) (h.below hW) htop
    rw [hv] at this
    exact ok_case this hz))
  have K2 := Lib.hid (fun W (hW : Below w.heap.size w W) => below_any (c := c) (h.below hW) ok hv)
  have HS : Hid (supF f.fr = mskE idN f.fr.mark v) := by show mskE idN f.fr.mark f.fr.vars = _; rw [vlF_nat f hv]
  generalize f.fr.mark = mark at *
  generalize supF f.fr = S at *
  generalize f.nn = nn at *
  generalize f.top = tp at *
  clear hv ok hz h
  go_enter Try.func117, Try.ntmps117
  go_wp2_with fail
  refine (K1.out _ (by (skip); repeat' (first | (with_reducible exact Below.refl _ _) | (with_reducible assumption) | (with_reducible refine Below.alloc ?_ ?_ _) | (with_reducible refine Below.drew ?_) | (with_reducible refine below_drewN ?_ _) | (with_reducible refine Below.setCell ?_ ?_ _) | (with_reducible refine Below.trans ?_ (Below.mono (by with_reducible assumption) ?_)) | omega | (simp only [World.size_alloc, World.size_setCell, World.size_drew, size_drewN']; omega) | go_size))).mono ?_
  rintro e w1 ⟨rfl, hb1⟩
  have hb1z := hb1.size
  simp only [World.size_alloc] at hb1z
  have x0 : w1.cell? ⟨w.heap.size, 0, none⟩ = some (.int .i64 (v : Int)) := (below_at hb1 w.heap.size 0 (by simp)).trans (by simp [go_sem])
  have x1 : w1.cell? ⟨w.heap.size, 1, none⟩ = some (.slice A nn c) := (below_at hb1 w.heap.size 1 (by simp)).trans (by simp [go_sem])
  have x2 : w1.cell? ⟨w.heap.size, 2, none⟩ = some (.int .i64 tp) := (below_at hb1 w.heap.size 2 (by simp)).trans (by simp [go_sem])
  have hbA : Below w.heap.size w w1 := (by have z0 := Below.size hb1; (try simp only [World.size_alloc, World.size_setCell, World.size_drew, size_drewN'] at z0 ⊢; skip); repeat' (first | (with_reducible exact Below.refl _ _) | (with_reducible assumption) | (with_reducible refine Below.alloc ?_ ?_ _) | (with_reducible refine Below.drew ?_) | (with_reducible refine below_drewN ?_ _) | (with_reducible refine Below.setCell ?_ ?_ _) | (with_reducible refine Below.trans ?_ (Below.mono (by with_reducible assumption) ?_)) | omega | (simp only [World.size_alloc, World.size_setCell, World.size_drew, size_drewN']; omega) | go_size))
  have z0 : w.heap.size < w1.heap.size := by omega
  have hvn : v ≤ v + nn := by omega
  have hvn1 : (v : Int) ≤ (v : Int) + (nn : Int) := by omega
  have hvn2 : (0 : Int) ≤ (v : Int) := by omega
  clear hb1
  go_wp2
  go_region_held3 (fun W => W.cell? ⟨w.heap.size, 0, none⟩ = some (.int .i64 (v : Int)) ∧ W.cell? ⟨w.heap.size, 1, none⟩ = some (.slice A nn c) ∧ W.cell? ⟨w.heap.size, 2, none⟩ = some (.int .i64 tp)) (go_keep)
    (first | ((go_at_call 135; (with_reducible refine (K2.out _ (by (skip); repeat' (first | (with_reducible exact Below.refl _ _) | (with_reducible assumption) | (with_reducible refine Below.alloc ?_ ?_ _) | (with_reducible refine Below.drew ?_) | (with_reducible refine below_drewN ?_ _) | (with_reducible refine Below.setCell ?_ ?_ _) | (with_reducible refine Below.trans ?_ (Below.mono (by with_reducible assumption) ?_)) | omega | (simp only [World.size_alloc, World.size_setCell, World.size_drew, size_drewN']; omega) | go_size))).mono ?_); rintro e w4 ⟨⟨g4, rfl, own4⟩, hb4⟩; have hb4z := Below.size hb4; (try simp only [World.size_alloc, World.size_setCell, World.size_drew] at hb4z); have hb4c0 := fun o => below_at hb4 (w.heap.size) o (by first | omega | (simp only [World.size_alloc, World.size_setCell, World.size_drew]; omega)); have hb4f0 := fun o => below_fr hb4 (w.heap.size) o (by first | omega | (simp only [World.size_alloc, World.size_setCell, World.size_drew]; omega)); have hb4l0 : w.heap.size < (w4).heap.size := (by omega))) | fail)
  all_goals
    have hbB : Below w.heap.size w w4 := (by have z0 := Below.size hbA; have z1 := Below.size hb4; (try simp only [World.size_alloc, World.size_setCell, World.size_drew, size_drewN'] at z0 z1 ⊢; skip); repeat' (first | (with_reducible exact Below.refl _ _) | (with_reducible assumption) | (with_reducible refine Below.alloc ?_ ?_ _) | (with_reducible refine Below.drew ?_) | (with_reducible refine below_drewN ?_ _) | (with_reducible refine Below.setCell ?_ ?_ _) | (with_reducible refine Below.trans ?_ (Below.mono (by with_reducible assumption) ?_)) | omega | (simp only [World.size_alloc, World.size_setCell, World.size_drew, size_drewN']; omega) | go_size))
    clear hb4 hbA
    obtain ⟨W4, hW4⟩ : ∃ W4 : World, W4 = w4 := ⟨_, rfl⟩
    go_wp2
    go_loopw [5, 19] (fun o i wr => ∃ k : Nat, k ≤ v ∧ o = .int .i64 (mskE idN mark k : Nat) ∧ i = .int .i64 k ∧ Below w.heap.size w wr ∧ OwV wr w.heap.size (some ⟨g4, 0, none⟩) (v + nn) (v + nn) mark) (fun _ i _ => v - (intOf i).toNat)
    case atStart => exact ⟨0, Nat.zero_le _, rfl, rfl, (by have z0 := Below.size hbB; (try simp only [World.size_alloc, World.size_setCell, World.size_drew, size_drewN'] at z0 ⊢; skip); repeat' (first | (with_reducible exact Below.refl _ _) | (with_reducible assumption) | (with_reducible refine Below.alloc ?_ ?_ _) | (with_reducible refine Below.drew ?_) | (with_reducible refine below_drewN ?_ _) | (with_reducible refine Below.setCell ?_ ?_ _) | (with_reducible refine Below.trans ?_ (Below.mono (by with_reducible assumption) ?_)) | omega | (simp only [World.size_alloc, World.size_setCell, World.size_drew, size_drewN']; omega) | go_size)), own4.base_ (by first | omega | (show w.heap.size ≤ w1.heap.size; omega))⟩
    case round =>
      obtain ⟨k, hk, rfl, rfl, hb, own⟩ := hrel
      by_cases hkv : k < v
      · have cm := own.at_ (k := k) (by omega)
        have HN : Hid (mskE idN mark (k + 1) = if mark k then mskE idN mark k ||| 2 ^ k else mskE idN mark k) := rfl
        have hlt := msk_24 (p := mark) (n := k) (by omega)
        have hp := pow_lt24 (k := k) (by omega)
        have s1 := shl_eq (k := k) (by omega)
        have s2 := i64_or (mskE idN mark k) (2 ^ k) (by omega) (by omega)
        cases hmk : mark k
        · rw [hmk] at cm HN
          have HE : Hid (mskE idN mark k = mskE idN mark (k + 1)) := HN.out.symm
          clear HN hmk
          go_wp2
          go_roundw
          case rel => exact ⟨k + 1, by omega, by rw [← HE.out], by go_num, hb, own⟩
          case measure => simp [intOf]; omega
        · rw [hmk] at cm HN
          have HE : Hid (mskE idN mark k ||| 2 ^ k = mskE idN mark (k + 1)) := HN.out.symm
          clear HN hmk
          generalize mskE idN mark k ||| 2 ^ k = r at *
          generalize 2 ^ k = p at *
          generalize mskE idN mark k = q at *
          go_wp2
          go_roundw
          case rel => exact ⟨k + 1, by omega, by rw [← HE.out], by go_num, hb, own⟩
          case measure => simp [intOf]; omega
      · have HE : Hid (mskE idN mark k = S) := by show _ = _; rw [HS.out, show k = v by omega]
        go_wp2
        go_returns
        exact ⟨by rw [← HE.out]; rfl, hb⟩
set_option maxHeartbeats 4000000 in
theorem rsupport_ok {v : Nat} (h : FrI w A f) (ok : FrOk f) (hv : f.vars = v) :
    Calls Try.prog 95 #[fv (v : Int) A f.nn c f.top] w fun e w' => e = .returned (.int .i64 (supF f.fr : Nat)) ∧ Below w.heap.size w w' := by
  have v1 : v ≤ 24 := by have := ok.v1; omega
  have n1 := ok.n1
  have K2 := Lib.hid (fun W (hW : Below w.heap.size w W) => rbelow_any (c := c) (h.below hW) ok hv)
  have HS : Hid (supF f.fr = mskE idN f.fr.mark v) := by show mskE idN f.fr.mark f.fr.vars = _; rw [vlF_nat f hv]
  generalize f.fr.mark = mark at *
  generalize supF f.fr = S at *
  generalize f.nn = nn at *
  generalize f.top = tp at *
  clear hv ok h
  go_enter Try.func95, Try.ntmps95
  go_wp2_with fail
  refine (K2.out _ (by (skip); repeat' (first | (with_reducible exact Below.refl _ _) | (with_reducible assumption) | (with_reducible refine Below.alloc ?_ ?_ _) | (with_reducible refine Below.drew ?_) | (with_reducible refine below_drewN ?_ _) | (with_reducible refine Below.setCell ?_ ?_ _) | (with_reducible refine Below.trans ?_ (Below.mono (by with_reducible assumption) ?_)) | omega | (simp only [World.size_alloc, World.size_setCell, World.size_drew, size_drewN']; omega) | go_size))).mono ?_
  rintro e w1 ⟨⟨g4, rfl, own4⟩, hb1⟩
  have hb1z := hb1.size
  simp only [World.size_alloc] at hb1z
  have x0 : w1.cell? ⟨w.heap.size, 0, none⟩ = some (.int .i64 (v : Int)) := (below_at hb1 w.heap.size 0 (by simp)).trans (by simp [go_sem])
  have hbA : Below w.heap.size w w1 := (by have z0 := Below.size hb1; (try simp only [World.size_alloc, World.size_setCell, World.size_drew, size_drewN'] at z0 ⊢; skip); repeat' (first | (with_reducible exact Below.refl _ _) | (with_reducible assumption) | (with_reducible refine Below.alloc ?_ ?_ _) | (with_reducible refine Below.drew ?_) | (with_reducible refine below_drewN ?_ _) | (with_reducible refine Below.setCell ?_ ?_ _) | (with_reducible refine Below.trans ?_ (Below.mono (by with_reducible assumption) ?_)) | omega | (simp only [World.size_alloc, World.size_setCell, World.size_drew, size_drewN']; omega) | go_size))
  have own5 := own4.base_ (b0 := w.heap.size) (by simp)
  clear hb1 own4
  go_wp2
  go_loopw [3, 9] (fun o i wr => ∃ k : Nat, k ≤ v + nn ∧ o = .int .i64 (mskE idN mark (min k v) : Nat) ∧ i = .int .i64 k ∧ w1 = wr) (fun _ i _ => v + nn - (intOf i).toNat)
  case atStart => exact ⟨0, Nat.zero_le _, by rw [Nat.zero_min]; rfl, rfl, rfl⟩
  case round =>
    obtain ⟨k, hk, rfl, rfl, rfl⟩ := hrel
    by_cases hkn : k < v + nn
    · have cm := own5.at_ (k := k) hkn
      by_cases hkv : k < v
      · have HN : Hid (mskE idN mark (k + 1) = if mark k then mskE idN mark k ||| 2 ^ k else mskE idN mark k) := rfl
        have hlt := msk_24 (p := mark) (n := k) (by omega)
        have hp := pow_lt24 (k := k) (by omega)
        have s1 := shl_eq (k := k) (by omega)
        have s2 := i64_or (mskE idN mark k) (2 ^ k) (by omega) (by omega)
        have m1 : min k v = k := by omega
        have m2 : min (k + 1) v = k + 1 := by omega
        rw [m1]
        have HM2 := Lib.hid m2
        clear m1 m2
        cases hmk : mark k
        · rw [hmk] at cm HN
          have HE : Hid (mskE idN mark k = mskE idN mark (min (k + 1) v)) := by show _ = _; rw [HM2.out]; exact HN.out.symm
          clear HN hmk
          go_wp2
          go_roundw
          case rel => exact ⟨k + 1, by omega, by rw [← HE.out], by go_num, by trivial⟩
          case measure => simp [intOf]; omega
        · rw [hmk] at cm HN
          have HE : Hid (mskE idN mark k ||| 2 ^ k = mskE idN mark (min (k + 1) v)) := by show _ = _; rw [HM2.out]; exact HN.out.symm
          clear HN hmk
          generalize mskE idN mark k ||| 2 ^ k = r at *
          generalize 2 ^ k = p at *
          generalize mskE idN mark k = q at *
          go_wp2
          go_roundw
          case rel => exact ⟨k + 1, by omega, by rw [← HE.out], by go_num, by trivial⟩
          case measure => simp [intOf]; omega
      · have HE : Hid (mskE idN mark (min k v) = mskE idN mark (min (k + 1) v)) := by show _ = _; rw [show min k v = v by omega, show min (k + 1) v = v by omega]
        generalize mskE idN mark (min k v) = q at *
        cases hmk : mark k
        all_goals
          rw [hmk] at cm
          clear hmk
          go_wp2
          go_roundw
          case rel => exact ⟨k + 1, by omega, by rw [← HE.out], by go_num, by trivial⟩
          case measure => simp [intOf]; omega
    · have HE : Hid (mskE idN mark (min k v) = S) := by show _ = _; rw [HS.out, show min k v = v by omega]
      generalize mskE idN mark (min k v) = q at *
      go_wp2
      go_ret
      exact ⟨by rw [← HE.out]; rfl, hbA⟩
end
section
variable {w : World} {A : Option Addr} {c : Nat} {f : FrR}
end
end Go.Proofs.Ytedopalmfakeaaa
