/- Contracts of functions and lemmas, used by the proofs of the given statements. No condition beyond those that each lemma names. -/
import Derived.Test.YtedopalmfakeaaaFrmW5
import Derived.Test.YtedopalmfakeaaaJCubeCnt
namespace Go.Proofs.Ytedopalmfakeaaa
open Go.RowKit
set_option linter.unusedSimpArgs false
set_option linter.unusedVariables false
set_option maxRecDepth 20000
/-! ## Support of both; the reference's values -/
def idN : Nat → Nat := fun k => k
def supF (g : Frm) : Nat := mskE idN g.mark g.vars
theorem msk_lt (p : Nat → Bool) : ∀ n, mskE idN p n < 2 ^ n
  | 0 => by simp [mskE]
  | n + 1 => by
    have ih := msk_lt p n
    have h2 : 2 ^ n < 2 ^ (n + 1) := Nat.pow_lt_pow_right (by omega) (by omega)
    rw [mskE]
    split
    · exact Nat.or_lt_two_pow (by omega) h2
    · omega
theorem msk_24 {p : Nat → Bool} {n : Nat} (hn : n ≤ 24) : mskE idN p n < 16777216 := Nat.lt_of_lt_of_le (msk_lt p n) (Nat.pow_le_pow_right (n := 2) (by omega) hn)
theorem supF_bit (g : Frm) (i : Nat) : (supF g).testBit i = true ↔ i < g.vars ∧ g.mark i = true := by
  unfold supF
  rw [mskE_bit]
  constructor
  · rintro ⟨k, h1, h2, h3⟩
    have : k = i := h3
    subst this
    exact ⟨h1, h2⟩
  · rintro ⟨h1, h2⟩
    exact ⟨i, h1, h2, rfl⟩
section
variable {w : World} {A : Option Addr} {c : Nat} {f : FrR}
set_option maxHeartbeats 4000000 in
theorem support_ok {v : Nat} (h : FrI w A f) (ok : FrOk f) (hv : f.vars = v) :
    Calls Try.prog 117 #[fv (v : Int) A f.nn c f.top] w fun e w' => e = .returned (.tuple #[.int .i64 (supF f.fr : Nat), .nilIface]) ∧ Below w.heap.size w w' := by
  have v1 : v ≤ 24 := by have := ok.v1; omega
  have n1 := ok.n1
  have htop : f.top ≤ 9223372036854775807 := by have := ok.t1; omega
  have hz := okF_code ok
  have K1 := Lib.hid (fun W (hW : Below w.heap.size w W) => (show Calls Try.prog 103 #[fv (v : Int) A f.nn c f.top] W (fun e w' => e = .returned .nilIface ∧ Below W.heap.size W w') from by
    have := fcheck_any (c := c) (h.below hW) htop
    rw [hv] at this
    exact ok_case this hz))
  have K2 := Lib.hid (fun W (hW : Below w.heap.size w W) => below_any (c := c) (h.below hW) ok hv)
  have HS : Hid (supF f.fr = mskE idN f.fr.mark v) := by show mskE idN f.fr.mark f.fr.vars = _; rw [vlF_nat f hv]
  generalize f.fr.mark = mark at *
  generalize supF f.fr = S at *
  generalize f.nn = nn at *
  generalize f.top = tp at *
  clear hv ok hz h
  go_enter Try.func117, Try.ntmps117
  go_wp2_with fail
  refine (K1.out _ (by (skip); repeat' (first | (with_reducible exact Below.refl _ _) | (with_reducible assumption) | (with_reducible refine Below.alloc ?_ ?_ _) | (with_reducible refine Below.drew ?_) | (with_reducible refine below_drewN ?_ _) | (with_reducible refine Below.setCell ?_ ?_ _) | (with_reducible refine Below.trans ?_ (Below.mono (by with_reducible assumption) ?_)) | omega | (simp only [World.size_alloc, World.size_setCell, World.size_drew, size_drewN']; omega) | go_size))).mono ?_
  rintro e w1 ⟨rfl, hb1⟩
  have hb1z := hb1.size
  simp only [World.size_alloc] at hb1z
  have x0 : w1.cell? ⟨w.heap.size, 0, none⟩ = some (.int .i64 (v : Int)) := (below_at hb1 w.heap.size 0 (by simp)).trans (by simp [go_sem])
  have x1 : w1.cell? ⟨w.heap.size, 1, none⟩ = some (.slice A nn c) := (below_at hb1 w.heap.size 1 (by simp)).trans (by simp [go_sem])
  have x2 : w1.cell? ⟨w.heap.size, 2, none⟩ = some (.int .i64 tp) := (below_at hb1 w.heap.size 2 (by simp)).trans (by simp [go_sem])
  have hbA : Below w.heap.size w w1 := (by have z0 := Below.size hb1; (try simp only [World.size_alloc, World.size_setCell, World.size_drew, size_drewN'] at z0 ⊢; skip); repeat' (first | (with_reducible exact Below.refl _ _) | (with_reducible assumption) | (with_reducible refine Below.alloc ?_ ?_ _) | (with_reducible refine Below.drew ?_) | (with_reducible refine below_drewN ?_ _) | (with_reducible refine Below.setCell ?_ ?_ _) | (with_reducible refine Below.trans ?_ (Below.mono (by with_reducible assumption) ?_)) | omega | (simp only [World.size_alloc, World.size_setCell, World.size_drew, size_drewN']; omega) | go_size))
  have z0 : w.heap.size < w1.heap.size := by omega
  have hvn : v ≤ v + nn := by omega
  have hvn1 : (v : Int) ≤ (v : Int) + (nn : Int) := by omega
  have hvn2 : (0 : Int) ≤ (v : Int) := by omega
  clear hb1
  go_wp2
  go_region_held3 (fun W => W.cell? ⟨w.heap.size, 0, none⟩ = some (.int .i64 (v : Int)) ∧ W.cell? ⟨w.heap.size, 1, none⟩ = some (.slice A nn c) ∧ W.cell? ⟨w.heap.size, 2, none⟩ = some (.int .i64 tp)) (go_keep)
    (first | ((go_at_call 135; (with_reducible refine (K2.out _ (by (skip); repeat' (first | (with_reducible exact Below.refl _ _) | (with_reducible assumption) | (with_reducible refine Below.alloc ?_ ?_ _) | (with_reducible refine Below.drew ?_) | (with_reducible refine below_drewN ?_ _) | (with_reducible refine Below.setCell ?_ ?_ _) | (with_reducible refine Below.trans ?_ (Below.mono (by with_reducible assumption) ?_)) | omega | (simp only [World.size_alloc, World.size_setCell, World.size_drew, size_drewN']; omega) | go_size))).mono ?_); rintro e w4 ⟨⟨g4, rfl, own4⟩, hb4⟩; have hb4z := Below.size hb4; (try simp only [World.size_alloc, World.size_setCell, World.size_drew] at hb4z); have hb4c0 := fun o => below_at hb4 (w.heap.size) o (by first | omega | (simp only [World.size_alloc, World.size_setCell, World.size_drew]; omega)); have hb4f0 := fun o => below_fr hb4 (w.heap.size) o (by first | omega | (simp only [World.size_alloc, World.size_setCell, World.size_drew]; omega)); have hb4l0 : w.heap.size < (w4).heap.size := (by omega))) | fail)
  all_goals
    have hbB : Below w.heap.size w w4 := (by have z0 := Below.size hbA; have z1 := Below.size hb4; (try simp only [World.size_alloc, World.size_setCell, World.size_drew, size_drewN'] at z0 z1 ⊢; skip); repeat' (first | (with_reducible exact Below.refl _ _) | (with_reducible assumption) | (with_reducible refine Below.alloc ?_ ?_ _) | (with_reducible refine Below.drew ?_) | (with_reducible refine below_drewN ?_ _) | (with_reducible refine Below.setCell ?_ ?_ _) | (with_reducible refine Below.trans ?_ (Below.mono (by with_reducible assumption) ?_)) | omega | (simp only [World.size_alloc, World.size_setCell, World.size_drew, size_drewN']; omega) | go_size))
    clear hb4 hbA
    obtain ⟨W4, hW4⟩ : ∃ W4 : World, W4 = w4 := ⟨_, rfl⟩
    go_wp2
    go_loopw [5, 19] (fun o i wr => ∃ k : Nat, k ≤ v ∧ o = .int .i64 (mskE idN mark k : Nat) ∧ i = .int .i64 k ∧ Below w.heap.size w wr ∧ OwV wr w.heap.size (some ⟨g4, 0, none⟩) (v + nn) (v + nn) mark) (fun _ i _ => v - (intOf i).toNat)
    case atStart => exact ⟨0, Nat.zero_le _, rfl, rfl, (by have z0 := Below.size hbB; (try simp only [World.size_alloc, World.size_setCell, World.size_drew, size_drewN'] at z0 ⊢; skip); repeat' (first | (with_reducible exact Below.refl _ _) | (with_reducible assumption) | (with_reducible refine Below.alloc ?_ ?_ _) | (with_reducible refine Below.drew ?_) | (with_reducible refine below_drewN ?_ _) | (with_reducible refine Below.setCell ?_ ?_ _) | (with_reducible refine Below.trans ?_ (Below.mono (by with_reducible assumption) ?_)) | omega | (simp only [World.size_alloc, World.size_setCell, World.size_drew, size_drewN']; omega) | go_size)), own4.base_ (by first | omega | (show w.heap.size ≤ w1.heap.size; omega))⟩
    case round =>
      obtain ⟨k, hk, rfl, rfl, hb, own⟩ := hrel
      by_cases hkv : k < v
      · have cm := own.at_ (k := k) (by omega)
        have HN : Hid (mskE idN mark (k + 1) = if mark k then mskE idN mark k ||| 2 ^ k else mskE idN mark k) := rfl
        have hlt := msk_24 (p := mark) (n := k) (by omega)
        have hp := pow_lt24 (k := k) (by omega)
        have s1 := shl_eq (k := k) (by omega)
        have s2 := i64_or (mskE idN mark k) (2 ^ k) (by omega) (by omega)
        cases hmk : mark k
        · rw [hmk] at cm HN
          have HE : Hid (mskE idN mark k = mskE idN mark (k + 1)) := HN.out.symm
          clear HN hmk
          go_wp2
          go_roundw
          case rel => exact ⟨k + 1, by omega, by rw [← HE.out], by go_num, hb, own⟩
          case measure => simp [intOf]; omega
        · rw [hmk] at cm HN
          have HE : Hid (mskE idN mark k ||| 2 ^ k = mskE idN mark (k + 1)) := HN.out.symm
          clear HN hmk
          generalize mskE idN mark k ||| 2 ^ k = r at *
          generalize 2 ^ k = p at *
          generalize mskE idN mark k = q at *
          go_wp2
          go_roundw
          case rel => exact ⟨k + 1, by omega, by rw [← HE.out], by go_num, hb, own⟩
          case measure => simp [intOf]; omega
      · have HE : Hid (mskE idN mark k = S) := by show _ = _; rw [HS.out, show k = v by omega]
        go_wp2
        go_returns
        exact ⟨by rw [← HE.out]; rfl, hb⟩
set_option maxHeartbeats 4000000 in
theorem rsupport_ok {v : Nat} (h : FrI w A f) (ok : FrOk f) (hv : f.vars = v) :
    Calls Try.prog 95 #[fv (v : Int) A f.nn c f.top] w fun e w' => e = .returned (.int .i64 (supF f.fr : Nat)) ∧ Below w.heap.size w w' := by
  have v1 : v ≤ 24 := by have := ok.v1; omega
  have n1 := ok.n1
  have K2 := Lib.hid (fun W (hW : Below w.heap.size w W) => rbelow_any (c := c) (h.below hW) ok hv)
  have HS : Hid (supF f.fr = mskE idN f.fr.mark v) := by show mskE idN f.fr.mark f.fr.vars = _; rw [vlF_nat f hv]
  generalize f.fr.mark = mark at *
  generalize supF f.fr = S at *
  generalize f.nn = nn at *
  generalize f.top = tp at *
  clear hv ok h
  go_enter Try.func95, Try.ntmps95
  go_wp2_with fail
  refine (K2.out _ (by (skip); repeat' (first | (with_reducible exact Below.refl _ _) | (with_reducible assumption) | (with_reducible refine Below.alloc ?_ ?_ _) | (with_reducible refine Below.drew ?_) | (with_reducible refine below_drewN ?_ _) | (with_reducible refine Below.setCell ?_ ?_ _) | (with_reducible refine Below.trans ?_ (Below.mono (by with_reducible assumption) ?_)) | omega | (simp only [World.size_alloc, World.size_setCell, World.size_drew, size_drewN']; omega) | go_size))).mono ?_
  rintro e w1 ⟨⟨g4, rfl, own4⟩, hb1⟩
  have hb1z := hb1.size
  simp only [World.size_alloc] at hb1z
  have x0 : w1.cell? ⟨w.heap.size, 0, none⟩ = some (.int .i64 (v : Int)) := (below_at hb1 w.heap.size 0 (by simp)).trans (by simp [go_sem])
  have hbA : Below w.heap.size w w1 := (by have z0 := Below.size hb1; (try simp only [World.size_alloc, World.size_setCell, World.size_drew, size_drewN'] at z0 ⊢; skip); repeat' (first | (with_reducible exact Below.refl _ _) | (with_reducible assumption) | (with_reducible refine Below.alloc ?_ ?_ _) | (with_reducible refine Below.drew ?_) | (with_reducible refine below_drewN ?_ _) | (with_reducible refine Below.setCell ?_ ?_ _) | (with_reducible refine Below.trans ?_ (Below.mono (by with_reducible assumption) ?_)) | omega | (simp only [World.size_alloc, World.size_setCell, World.size_drew, size_drewN']; omega) | go_size))
  have own5 := own4.base_ (b0 := w.heap.size) (by simp)
  clear hb1 own4
  go_wp2
  go_loopw [3, 9] (fun o i wr => ∃ k : Nat, k ≤ v + nn ∧ o = .int .i64 (mskE idN mark (min k v) : Nat) ∧ i = .int .i64 k ∧ w1 = wr) (fun _ i _ => v + nn - (intOf i).toNat)
  case atStart => exact ⟨0, Nat.zero_le _, by rw [Nat.zero_min]; rfl, rfl, rfl⟩
  case round =>
    obtain ⟨k, hk, rfl, rfl, rfl⟩ := hrel
    by_cases hkn : k < v + nn
    · have cm := own5.at_ (k := k) hkn
      by_cases hkv : k < v
      · have HN : Hid (mskE idN mark (k + 1) = if mark k then mskE idN mark k ||| 2 ^ k else mskE idN mark k) := rfl
        have hlt := msk_24 (p := mark) (n := k) (by omega)
        have hp := pow_lt24 (k := k) (by omega)
        have s1 := shl_eq (k := k) (by omega)
        have s2 := i64_or (mskE idN mark k) (2 ^ k) (by omega) (by omega)
        have m1 : min k v = k := by omega
        have m2 : min (k + 1) v = k + 1 := by omega
        rw [m1]
        have HM2 := Lib.hid m2
        clear m1 m2
        cases hmk : mark k
        · rw [hmk] at cm HN
          have HE : Hid (mskE idN mark k = mskE idN mark (min (k + 1) v)) := by show _ = _; rw [HM2.out]; exact HN.out.symm
          clear HN hmk
          go_wp2
          go_roundw
          case rel => exact ⟨k + 1, by omega, by rw [← HE.out], by go_num, by trivial⟩
          case measure => simp [intOf]; omega
        · rw [hmk] at cm HN
          have HE : Hid (mskE idN mark k ||| 2 ^ k = mskE idN mark (min (k + 1) v)) := by show _ = _; rw [HM2.out]; exact HN.out.symm
          clear HN hmk
          generalize mskE idN mark k ||| 2 ^ k = r at *
          generalize 2 ^ k = p at *
          generalize mskE idN mark k = q at *
          go_wp2
          go_roundw
          case rel => exact ⟨k + 1, by omega, by rw [← HE.out], by go_num, by trivial⟩
          case measure => simp [intOf]; omega
      · have HE : Hid (mskE idN mark (min k v) = mskE idN mark (min (k + 1) v)) := by show _ = _; rw [show min k v = v by omega, show min (k + 1) v = v by omega]
        generalize mskE idN mark (min k v) = q at *
        cases hmk : mark k
        all_goals
          rw [hmk] at cm
          clear hmk
          go_wp2
          go_roundw
          case rel => exact ⟨k + 1, by omega, by rw [← HE.out], by go_num, by trivial⟩
          case measure => simp [intOf]; omega
    · have HE : Hid (mskE idN mark (min k v) = S) := by show _ = _; rw [HS.out, show min k v = v by omega]
      generalize mskE idN mark (min k v) = q at *
      go_wp2
      go_ret
      exact ⟨by rw [← HE.out]; rfl, hbA⟩
end
theorem of_lo {w : World} {v t x : Nat} {A Av : Option Addr} {nn c nv cv : Nat} {tp : Int} (hv : v ≤ 24) (hx : x < v) (ht : t < 16777216) :
    Calls Try.prog 136 #[fv (v : Int) A nn c tp, .slice Av nv cv, .int .i64 (t : Int), .int .i64 (x : Int)] w fun e w' => e = .returned (.bool (t.testBit x)) ∧ Below w.heap.size w w' := by
  have s1 := shr_eq t x
  have hq : t / 2 ^ x < 16777216 := Nat.lt_of_le_of_lt (Nat.div_le_self _ _) ht
  have s2 : bits .and .i64 ((t / 2 ^ x : Nat) : Int) 1 = ((t / 2 ^ x % 2 : Nat) : Int) := by
    have := i64_and (t / 2 ^ x) 1 (by omega) (by omega)
    rw [Nat.and_one_is_mod] at this
    exact this
  have s3 : ((((t / 2 ^ x % 2 : Nat)) : Int) == 1) = t.testBit x := by
    rw [bit_div]
    cases t.testBit x <;> rfl
  generalize t.testBit x = bb at *
  generalize t / 2 ^ x % 2 = r2 at *
  generalize t / 2 ^ x = r1 at *
  go_enter Try.func136, Try.ntmps136
  go_wp2
  go_ret
  exact ⟨rfl, (by (skip); repeat' (first | (with_reducible exact Below.refl _ _) | (with_reducible assumption) | (with_reducible refine Below.alloc ?_ ?_ _) | (with_reducible refine Below.drew ?_) | (with_reducible refine below_drewN ?_ _) | (with_reducible refine Below.setCell ?_ ?_ _) | (with_reducible refine Below.trans ?_ (Below.mono (by with_reducible assumption) ?_)) | omega | (simp only [World.size_alloc, World.size_setCell, World.size_drew, size_drewN']; omega) | go_size))⟩
theorem of_hi {w : World} {v t x : Nat} {A Av : Option Addr} {nn c nv cv : Nat} {tp : Int} {u : Nat → Bool} (hv : v ≤ 24) (hx : v ≤ x) (hxn : x - v < nv) (hnn : nv ≤ 128) (r : RdV w Av nv u) :
    Calls Try.prog 136 #[fv (v : Int) A nn c tp, .slice Av nv cv, .int .i64 (t : Int), .int .i64 (x : Int)] w fun e w' => e = .returned (.bool (u (x - v))) ∧ Below w.heap.size w w' := by
  obtain ⟨b, off, rfl, hb, z⟩ := r.at_ hxn
  have hd : (x : Int) - (v : Int) = ((x - v : Nat) : Int) := by omega
  generalize u (x - v) = bb at *
  have hx' : ¬ x < v := by omega
  generalize hxx : x - v = y at *
  go_enter Try.func136, Try.ntmps136
  go_wp2
  go_ret
  exact ⟨rfl, (by (skip); repeat' (first | (with_reducible exact Below.refl _ _) | (with_reducible assumption) | (with_reducible refine Below.alloc ?_ ?_ _) | (with_reducible refine Below.drew ?_) | (with_reducible refine below_drewN ?_ _) | (with_reducible refine Below.setCell ?_ ?_ _) | (with_reducible refine Below.trans ?_ (Below.mono (by with_reducible assumption) ?_)) | omega | (simp only [World.size_alloc, World.size_setCell, World.size_drew, size_drewN']; omega) | go_size))⟩
section
variable {w : World} {A : Option Addr} {c : Nat} {f : FrR}
set_option maxHeartbeats 8000000 in
theorem rvalues_any {t v : Nat} (h : FrI w A f) (ok : FrOk f) (hv : f.vars = v) (ht : t < 16777216) :
    Calls Try.prog 137 #[fv (v : Int) A f.nn c f.top, .int .i64 (t : Int)] w fun e w' => (∃ g, e = .returned (.slice (some ⟨g, 0, none⟩) f.nn f.nn) ∧ OwV w' w.heap.size (some ⟨g, 0, none⟩) f.nn f.nn (fun j => vlF f.fr t f.nn (v + j))) ∧ Below w.heap.size w w' := by
  have v1 : v ≤ 24 := by have := ok.v1; omega
  have n1 := ok.n1
  have HF : Hid (f.fr.vars = v) := vlF_nat f hv
  have HOK := Lib.hid ok
  clear hv ok
  generalize hnn : f.nn = nn at *
  generalize f.top = tp at *
  go_enter Try.func137, Try.ntmps137
  go_wp2_with (first | (at_make; refine wpList_makeV rfl (.tmp 13) (.tmp 13) rfl (w.heap.size + 1) nn (nn : Int) (nn : Int) (by first | rfl | simp [Act.eval]) (by first | rfl | simp [Act.eval]) rfl rfl (by omega) (by simp) ?_; intro w1 own1 hb1; (simp only [World.size_alloc] at own1); have yq := fun o => below_at hb1 w.heap.size o (by simp)) | fail)
  have hbA : Below w.heap.size w w1 := (by have z0 := Below.size hb1; (try simp only [World.size_alloc, World.size_setCell, World.size_drew, size_drewN'] at z0 ⊢; skip); repeat' (first | (with_reducible exact Below.refl _ _) | (with_reducible assumption) | (with_reducible refine Below.alloc ?_ ?_ _) | (with_reducible refine Below.drew ?_) | (with_reducible refine below_drewN ?_ _) | (with_reducible refine Below.setCell ?_ ?_ _) | (with_reducible refine Below.trans ?_ (Below.mono (by with_reducible assumption) ?_)) | omega | (simp only [World.size_alloc, World.size_setCell, World.size_drew, size_drewN']; omega) | go_size))
  have hz1 := hb1.size
  simp only [World.size_alloc] at hz1
  have x0 : w1.cell? ⟨w.heap.size, 0, none⟩ = some (.int .i64 (v : Int)) := (yq 0).trans (by simp [go_sem])
  have x1 : w1.cell? ⟨w.heap.size, 1, none⟩ = some (.slice A nn c) := (yq 1).trans (by simp [go_sem])
  have x2 : w1.cell? ⟨w.heap.size, 2, none⟩ = some (.int .i64 tp) := (yq 2).trans (by simp [go_sem])
  clear yq hb1
  go_loopw [18] (fun i wr => ∃ k : Nat, k ≤ nn ∧ i = .int .i64 k ∧ OwV wr (w.heap.size + 1) (some ⟨w.heap.size + 1, 0, none⟩) nn nn (fun j => decide (j < k) && vlF f.fr t k (v + j)) ∧ Below w.heap.size w wr ∧ w.heap.size + 1 ≤ wr.heap.size ∧ wr.cell? ⟨w.heap.size, 0, none⟩ = some (.int .i64 (v : Int)) ∧ wr.cell? ⟨w.heap.size, 1, none⟩ = some (.slice A nn c) ∧ wr.cell? ⟨w.heap.size, 2, none⟩ = some (.int .i64 tp)) (fun i _ => nn - (intOf i).toNat)
  case atStart => exact ⟨0, Nat.zero_le _, rfl, own1.congr fun j _ => by simp, hbA, hz1, x0, x1, x2⟩
  case round =>
    obtain ⟨k, hk, rfl, own, hb, hz, x0, x1, x2⟩ := hrel
    clear own1 hbA hz1
    obtain ⟨wo, rfl⟩ : ∃ wo : World, wo = wr := ⟨_, rfl⟩
    by_cases hkn : k < nn
    · obtain ⟨b, off, A1, c1, rfl, hbb, z0, z1, z2, ra⟩ := (h.on hb (Nat.le_refl _)).at_ (k := k) (by rw [hnn]; exact hkn)
      have okk := HOK.out
      have hkd := okk.kd k (by rw [hnn]; exact hkn)
      have hln := okk.arlen (i := k) (by rw [hnn]; exact hkn)
      have har := okk.ar k (by rw [hnn]; exact hkn)
      have HVS : Hid (∀ j, vlF f.fr t (k + 1) j = if j = v + k then ndV (f.kd k).toNat (f.kk k) (f.ar k).length (cntT (vlF f.fr t k) ((f.ar k).map Int.toNat)) else vlF f.fr t k j) := fun j => by
        show (if j = f.fr.vars + k then _ else _) = _
        rw [HF.out]
        show (if j = v + k then ndV (f.kd k).toNat (f.kk k) ((f.ar k).map Int.toNat).length _ else _) = _
        rw [List.length_map]
        rfl
      have HEV : Hid (∀ x, x < v → vlF f.fr t k x = t.testBit x) := fun x hx => vlF_ev (by rw [HF.out]; exact hx)
      have hv2 : f.vars = v := by
        have := HF.out
        have h0 := okk.v0
        change f.vars.toNat = v at this
        omega
      rw [hv2] at har
      clear okk hv2
      generalize f.kd k = kd at *
      generalize f.kk k = kk at *
      generalize f.ar k = l at *
      go_wp2
      have hbW : Below w.heap.size w (wo.alloc (.cells #[.int .i64 kd, .int .i64 kk, .slice A1 l.length c1] 73)) := (by have z0 := Below.size hb; (try simp only [World.size_alloc, World.size_setCell, World.size_drew, size_drewN'] at z0 ⊢; skip); repeat' (first | (with_reducible exact Below.refl _ _) | (with_reducible assumption) | (with_reducible refine Below.alloc ?_ ?_ _) | (with_reducible refine Below.drew ?_) | (with_reducible refine below_drewN ?_ _) | (with_reducible refine Below.setCell ?_ ?_ _) | (with_reducible refine Below.trans ?_ (Below.mono (by with_reducible assumption) ?_)) | omega | (simp only [World.size_alloc, World.size_setCell, World.size_drew, size_drewN']; omega) | go_size))
      have ownW := own.below ((Below.refl wo.heap.size wo).alloc (Nat.le_refl _) (.cells #[.int .i64 kd, .int .i64 kk, .slice A1 l.length c1] 73))
      have raW : Rds (wo.alloc (.cells #[.int .i64 kd, .int .i64 kk, .slice A1 l.length c1] 73)) wo.heap.size 1 A1 l.length (zil l) := ra.below ((Below.refl _ _).alloc (Nat.le_refl _) _)
      have q0 : (wo.alloc (.cells #[.int .i64 kd, .int .i64 kk, .slice A1 l.length c1] 73)).cell? ⟨wo.heap.size, 0, none⟩ = some (.int .i64 kd) := by simp [go_sem]
      have q1 : (wo.alloc (.cells #[.int .i64 kd, .int .i64 kk, .slice A1 l.length c1] 73)).cell? ⟨wo.heap.size, 1, none⟩ = some (.int .i64 kk) := by simp [go_sem]
      have q2 : (wo.alloc (.cells #[.int .i64 kd, .int .i64 kk, .slice A1 l.length c1] 73)).cell? ⟨wo.heap.size, 2, none⟩ = some (.slice A1 l.length c1) := by simp [go_sem]
      have x0' : (wo.alloc (.cells #[.int .i64 kd, .int .i64 kk, .slice A1 l.length c1] 73)).cell? ⟨w.heap.size, 0, none⟩ = some (.int .i64 (v : Int)) := (below_at ((Below.refl wo.heap.size wo).alloc (Nat.le_refl _) _) w.heap.size 0 (by omega)).trans x0
      have x1' : (wo.alloc (.cells #[.int .i64 kd, .int .i64 kk, .slice A1 l.length c1] 73)).cell? ⟨w.heap.size, 1, none⟩ = some (.slice (some ⟨b, off, none⟩) nn c) := (below_at ((Below.refl wo.heap.size wo).alloc (Nat.le_refl _) _) w.heap.size 1 (by omega)).trans x1
      have x2' : (wo.alloc (.cells #[.int .i64 kd, .int .i64 kk, .slice A1 l.length c1] 73)).cell? ⟨w.heap.size, 2, none⟩ = some (.int .i64 tp) := (below_at ((Below.refl wo.heap.size wo).alloc (Nat.le_refl _) _) w.heap.size 2 (by omega)).trans x2
      have hwz : wo.heap.size < (wo.alloc (.cells #[.int .i64 kd, .int .i64 kk, .slice A1 l.length c1] 73)).heap.size := by simp
      obtain ⟨W2, hW2⟩ : ∃ W2, W2 = wo.alloc (.cells #[.int .i64 kd, .int .i64 kk, .slice A1 l.length c1] 73) := ⟨_, rfl⟩
      rw [← hW2] at hbW ownW raW q0 q1 q2 x0' x1' x2' hwz ⊢
      clear hW2 z0 z1 z2 own x0 x1 x2
      go_loopw [8, 26] (fun nv j w3 => ∃ q n : Nat, q ≤ l.length ∧ nv = .int .i64 n ∧ j = .int .i64 q ∧ n = cntT (vlF f.fr t k) ((l.map Int.toNat).take q) ∧ n ≤ q ∧ Below W2.heap.size W2 w3) (fun _ j _ => l.length - (intOf j).toNat)
      case atStart => exact ⟨0, 0, Nat.zero_le _, rfl, rfl, rfl, Nat.le_refl _, Below.refl _ _⟩
      case round =>
        obtain ⟨q, n, hq, rfl, rfl, hn, hnq, hb3⟩ := hrel
        have HN := Lib.hid hn
        clear hn
        obtain ⟨wu, rfl⟩ : ∃ wu : World, wu = wr := ⟨_, rfl⟩
        have hb3z := hb3.size
        have y0 := (below_at hb3 w.heap.size 0 (by omega)).trans x0'
        have y1 := (below_at hb3 w.heap.size 1 (by omega)).trans x1'
        have y2 := (below_at hb3 w.heap.size 2 (by omega)).trans x2'
        have ownU := ownW.below hb3
        by_cases hql : q < l.length
        · obtain ⟨b1, off1, rfl, hb1, zq⟩ := zil_at raW (hb3.mono (by omega)) hql
          have hax := har l[q] (List.getElem_mem _)
          have HC := Lib.hid (cntT_take (vlF f.fr t k) (l.map Int.toNat) (k := q) (by simpa using hql))
          obtain ⟨x, hx⟩ : ∃ x : Nat, l[q] = x := ⟨l[q].toNat, by omega⟩
          have hxm : (l.map Int.toNat)[q]'(by simpa using hql) = x := by simp [hx]
          rw [hxm] at HC
          rw [hx] at zq hax
          have K : Hid (∀ W, Below wu.heap.size wu W → Calls Try.prog 136 #[fv (v : Int) (some ⟨b, off, none⟩) nn c tp, .slice (some ⟨w.heap.size + 1, 0, none⟩) nn nn, .int .i64 (t : Int), .int .i64 (x : Int)] W fun e w' => e = .returned (.bool (vlF f.fr t k x)) ∧ Below W.heap.size W w') := fun W hW => by
            by_cases hxv : x < v
            · rw [HEV.out x hxv]
              exact of_lo v1 hxv ht
            · have hk2 : x - v < k := by omega
              have := of_hi (w := W) (v := v) (t := t) (x := x) (A := some ⟨b, off, none⟩) (nn := nn) (c := c) (cv := nn) (tp := tp) v1 (by omega) (by omega) n1 ((ownU.below hW).rd)
              rw [show v + (x - v) = x by omega, show decide (x - v < k) = true by simpa using hk2, Bool.true_and] at this
              exact this
          cases hbx : vlF f.fr t k x
          · rw [hbx] at K HC
            have HN' : Hid (n = cntT (vlF f.fr t k) ((l.map Int.toNat).take (q + 1))) := by show n = _; rw [HC.out, ← HN.out]; rfl
            clear HN HC hbx
            go_wp2_with fail
            refine (K.out _ (Below.refl _ _)).mono ?_
            rintro e w5 ⟨rfl, hb5⟩
            go_wp2
            go_roundw
            case rel => exact ⟨q + 1, n, by omega, rfl, by go_num, HN'.out, by omega, hb3.trans (hb5.mono hb3z)⟩
            case measure => simp [intOf]; omega
          · rw [hbx] at K HC
            have HN' : Hid (n + 1 = cntT (vlF f.fr t k) ((l.map Int.toNat).take (q + 1))) := by show n + 1 = _; rw [HC.out, ← HN.out]; rfl
            clear HN HC hbx
            go_wp2_with fail
            refine (K.out _ (Below.refl _ _)).mono ?_
            rintro e w5 ⟨rfl, hb5⟩
            go_wp2
            go_roundw
            case rel => exact ⟨q + 1, n + 1, by omega, by go_num, by go_num, HN'.out, by omega, hb3.trans (hb5.mono hb3z)⟩
            case measure => simp [intOf]; omega
        · obtain ⟨len, hlen⟩ : ∃ len, len = l.length := ⟨_, rfl⟩
          have hn : n = cntT (vlF f.fr t k) (l.map Int.toNat) := by
            have := HN.out
            rwa [List.take_of_length_le (by simp; omega)] at this
          obtain ⟨bv, hbv⟩ : ∃ bv, bv = ndV kd.toNat kk l.length n := ⟨_, rfl⟩
          have HVX : ∀ j, vlF f.fr t (k + 1) j = if j = v + k then bv else vlF f.fr t k j := fun j => by rw [HVS.out, ← hn, ← hbv]
          have HO4 := Lib.hid ((ownU.set k bv).1.congr (f' := fun j => decide (j < k + 1) && vlF f.fr t (k + 1) (v + j)) fun j _ => by
            rw [HVX]
            by_cases e : j = k
            · subst e; simp
            · have e1 : decide (j < k + 1) = decide (j < k) := by rw [decide_eq_decide]; omega
              rw [if_neg e, if_neg (by omega), e1])
          rw [← hlen] at hbv
          have HB := Lib.hid hbv
          have hle : len ≤ 16 := by omega
          have p0 := (below_at hb3 wo.heap.size 0 hwz).trans q0
          have p1 := (below_at hb3 wo.heap.size 1 hwz).trans q1
          have p2 := (below_at hb3 wo.heap.size 2 hwz).trans q2
          have ck := ownU.at_ hkn
          have fk := ownU.frozen k
          have hbX : Below w.heap.size w wu := hbW.trans (hb3.mono (by omega))
          rw [← hlen] at p2 hql ⊢
          clear hbv hn HN HVS HVX hlen har q0 q1 q2
          rcases (show kd = 0 ∨ kd = 1 ∨ kd = 2 ∨ kd = 3 ∨ kd = 4 ∨ kd = 5 by omega) with e | e | e | e | e | e
          all_goals subst e
          · have eb : (kk == 1) = bv := by
              rw [HB.out]
              exact (ndV_0 _ _ _).symm
            go_wp2
            go_roundw
            case rel => exact ⟨k + 1, by omega, by go_num, HO4.out, Below.setCell hbX (p := ⟨w.heap.size + 1, _, none⟩) (by simp) _, by simp; omega, set_far (by omega) y0, set_far (by omega) y1, set_far (by omega) y2⟩
            case measure => simp [intOf]; omega
          · have eb : ((n : Int) == 0) = bv := by
              rw [HB.out]
              exact ((nat_eq n).trans (ndV_1 kk len n).symm)
            go_wp2
            go_roundw
            case rel => exact ⟨k + 1, by omega, by go_num, HO4.out, Below.setCell hbX (p := ⟨w.heap.size + 1, _, none⟩) (by simp) _, by simp; omega, set_far (by omega) y0, set_far (by omega) y1, set_far (by omega) y2⟩
            case measure => simp [intOf]; omega
          · have eb : ((n : Int) == (len : Int)) = bv := by
              rw [HB.out]
              exact ((nat_eqn n len).trans (ndV_2 kk len n).symm)
            go_wp2
            go_roundw
            case rel => exact ⟨k + 1, by omega, by go_num, HO4.out, Below.setCell hbX (p := ⟨w.heap.size + 1, _, none⟩) (by simp) _, by simp; omega, set_far (by omega) y0, set_far (by omega) y1, set_far (by omega) y2⟩
            case measure => simp [intOf]; omega
          · have eb : decide (0 < n) = bv := by
              rw [HB.out]
              exact (ndV_3 _ _ _).symm
            go_wp2
            go_roundw
            case rel => exact ⟨k + 1, by omega, by go_num, HO4.out, Below.setCell hbX (p := ⟨w.heap.size + 1, _, none⟩) (by simp) _, by simp; omega, set_far (by omega) y0, set_far (by omega) y1, set_far (by omega) y2⟩
            case measure => simp [intOf]; omega
          · have eb : decide (kk ≤ (n : Int)) = bv := by
              rw [HB.out]
              exact (ndV_4 _ _ _).symm
            go_wp2
            go_roundw
            case rel => exact ⟨k + 1, by omega, by go_num, HO4.out, Below.setCell hbX (p := ⟨w.heap.size + 1, _, none⟩) (by simp) _, by simp; omega, set_far (by omega) y0, set_far (by omega) y1, set_far (by omega) y2⟩
            case measure => simp [intOf]; omega
          · have eb : ((n : Int) % 2 == 1) = bv := by
              rw [HB.out]
              exact ((nat_eqn (n % 2) 1).trans (ndV_5 kk len n).symm)
            have et : Int.tmod (n : Int) 2 = (n : Int) % 2 := Int.tmod_eq_emod_of_nonneg (by omega)
            go_wp2
            go_roundw
            case rel => exact ⟨k + 1, by omega, by go_num, HO4.out, Below.setCell hbX (p := ⟨w.heap.size + 1, _, none⟩) (by simp) _, by simp; omega, set_far (by omega) y0, set_far (by omega) y1, set_far (by omega) y2⟩
            case measure => simp [intOf]; omega
    · obtain rfl : k = nn := by omega
      go_wp2
      go_ret
      exact ⟨⟨w.heap.size + 1, rfl, (own.congr fun j hj => by rw [show decide (j < k) = true by simpa using hj, Bool.true_and]).base_ (by omega)⟩, hb⟩
set_option maxHeartbeats 4000000 in
theorem rvalue_ok {t v : Nat} (h : FrI w A f) (ok : FrOk f) (hv : f.vars = v) (ht : t < 16777216) :
    Calls Try.prog 126 #[fv (v : Int) A f.nn c f.top, .int .i64 (t : Int)] w fun e w' => e = .returned (.bool (f.fr.val t)) ∧ Below w.heap.size w w' := by
  have v1 : v ≤ 24 := by have := ok.v1; omega
  have n1 := ok.n1
  obtain ⟨tp, htp⟩ : ∃ tp : Nat, f.top = tp := ⟨f.top.toNat, by have := ok.t0; omega⟩
  have htl : tp < v + f.nn := by have := ok.t1; omega
  have K1 := Lib.hid (fun W (hW : Below w.heap.size w W) => rvalues_any (c := c) (t := t) (h.below hW) ok hv ht)
  have HV : f.fr.val t = vlF f.fr t f.nn tp := by
    show vlF f.fr t f.fr.nn f.fr.top = _
    show vlF f.fr t f.nn f.top.toNat = _
    rw [htp]; rfl
  have HEV : ∀ x, x < v → vlF f.fr t f.nn x = t.testBit x := fun x hx => vlF_ev (by rw [vlF_nat f hv]; exact hx)
  have K2 : Hid (∀ (g : Nat) W, OwV W w.heap.size (some ⟨g, 0, none⟩) f.nn f.nn (fun j => vlF f.fr t f.nn (v + j)) → Calls Try.prog 136 #[fv (v : Int) A f.nn c (tp : Int), .slice (some ⟨g, 0, none⟩) f.nn f.nn, .int .i64 (t : Int), .int .i64 (tp : Int)] W fun e w' => e = .returned (.bool (f.fr.val t)) ∧ Below W.heap.size W w') := fun g W hW => by
    rw [HV]
    by_cases hxv : tp < v
    · rw [HEV tp hxv]
      exact of_lo v1 hxv ht
    · have := of_hi (w := W) (v := v) (t := t) (x := tp) (A := A) (nn := f.nn) (c := c) (cv := f.nn) (tp := (tp : Int)) v1 (by omega) (by omega) n1 hW.rd
      rw [show v + (tp - v) = tp by omega] at this
      exact this
  rw [htp] at K1 ⊢
  generalize f.fr.val t = bv at *
  clear HV HEV ok hv h ht htp
  go_enter Try.func126, Try.ntmps126
  go_wp2
  go_region_held3 (fun W => W.cell? ⟨w.heap.size, 0, none⟩ = some (.int .i64 (v : Int)) ∧ W.cell? ⟨w.heap.size, 1, none⟩ = some (.slice A f.nn c) ∧ W.cell? ⟨w.heap.size, 2, none⟩ = some (.int .i64 (tp : Int))) (go_keep)
    (first | ((go_at_call 137; (with_reducible refine (K1.out _ (by (skip); repeat' (first | (with_reducible exact Below.refl _ _) | (with_reducible assumption) | (with_reducible refine Below.alloc ?_ ?_ _) | (with_reducible refine Below.drew ?_) | (with_reducible refine below_drewN ?_ _) | (with_reducible refine Below.setCell ?_ ?_ _) | (with_reducible refine Below.trans ?_ (Below.mono (by with_reducible assumption) ?_)) | omega | (simp only [World.size_alloc, World.size_setCell, World.size_drew, size_drewN']; omega) | go_size))).mono ?_); rintro e w4 ⟨⟨g4, rfl, own4⟩, hb4⟩; have hb4z := Below.size hb4; (try simp only [World.size_alloc, World.size_setCell, World.size_drew] at hb4z); have hb4c0 := fun o => below_at hb4 (w.heap.size) o (by first | omega | (simp only [World.size_alloc, World.size_setCell, World.size_drew]; omega)); have hb4f0 := fun o => below_fr hb4 (w.heap.size) o (by first | omega | (simp only [World.size_alloc, World.size_setCell, World.size_drew]; omega)); have hb4l0 : w.heap.size < (w4).heap.size := (by omega))) | ((go_at_call 136; (with_reducible refine (K2.out _ _ (own4.base_ (by first | omega | (simp; done) | (simp; omega)))).mono ?_); rintro e w5 ⟨rfl, hb5⟩; have hb5z := Below.size hb5; (try simp only [World.size_alloc, World.size_setCell, World.size_drew] at hb5z); have hb5c0 := fun o => below_at hb5 (w.heap.size) o (by first | omega | (simp only [World.size_alloc, World.size_setCell, World.size_drew]; omega)); have hb5f0 := fun o => below_fr hb5 (w.heap.size) o (by first | omega | (simp only [World.size_alloc, World.size_setCell, World.size_drew]; omega)); have hb5l0 : w.heap.size < (w5).heap.size := (by omega))) | fail)
  all_goals
    go_wp2
    go_ret
    exact ⟨rfl, (by have z0 := Below.size hb4; have z1 := Below.size hb5; (try simp only [World.size_alloc, World.size_setCell, World.size_drew, size_drewN'] at z0 z1 ⊢; skip); repeat' (first | (with_reducible exact Below.refl _ _) | (with_reducible assumption) | (with_reducible refine Below.alloc ?_ ?_ _) | (with_reducible refine Below.drew ?_) | (with_reducible refine below_drewN ?_ _) | (with_reducible refine Below.setCell ?_ ?_ _) | (with_reducible refine Below.trans ?_ (Below.mono (by with_reducible assumption) ?_)) | omega | (simp only [World.size_alloc, World.size_setCell, World.size_drew, size_drewN']; omega) | go_size))⟩
end
end Go.Proofs.Ytedopalmfakeaaa
