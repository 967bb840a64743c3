/- Contracts of functions and lemmas, used by the proofs of the given statements. No condition beyond those that each lemma names. -/
import Derived.Test.YtedopalmfakeaaaPrV1
import Derived.Test.YtedopalmfakeaaaPrW10
namespace Go.Proofs.Ytedopalmfakeaaa
open Go.RowKit Go.Sort
set_option linter.unusedSimpArgs false
set_option linter.unusedVariables false
set_option maxRecDepth 20000
/-! ## package prime: the errors of a formula -/
attribute [local irreducible] pop popc
section
variable {w : World} {A : Option Addr} {c : Nat} {f : FrR}
set_option maxHeartbeats 4000000 in
theorem support_bad (h : FrI w A f) (ht : f.top ≤ 9223372036854775807) (hc : codeF f ≠ 0) :
    Calls Try.prog 117 #[fv f.vars A f.nn c f.top] w fun e w' => e = .returned (.tuple #[.int .i64 0, .iface 58 (.int .i64 (codeF f))]) ∧ Below w.heap.size w w' := by
  have K := Lib.hid (fun W (hW : Below w.heap.size w W) => fcheck_any (c := c) (h.below hW) ht)
  unfold err at K
  rw [if_neg hc] at K
  generalize codeF f = cf at *
  generalize f.vars = v at *
  generalize f.nn = nn at *
  generalize f.top = tp at *
  clear h hc
  go_enter Try.func117, Try.ntmps117
  go_wp2_with fail
  refine (K.out _ (by (skip); repeat' (first | (with_reducible exact Below.refl _ _) | (with_reducible assumption) | (with_reducible refine Below.alloc ?_ ?_ _) | (with_reducible refine Below.drew ?_) | (with_reducible refine below_drewN ?_ _) | (with_reducible refine Below.setCell ?_ ?_ _) | (with_reducible refine Below.trans ?_ (Below.mono (by with_reducible assumption) ?_)) | omega | (simp only [World.size_alloc, World.size_setCell, World.size_drew, size_drewN']; omega) | go_size))).mono ?_
  rintro e w1 ⟨rfl, hb1⟩
  go_wp2_with fail
  go_returns
  exact ⟨rfl, (by have z0 := Below.size hb1; (try simp only [World.size_alloc, World.size_setCell, World.size_drew, size_drewN'] at z0 ⊢; skip); repeat' (first | (with_reducible exact Below.refl _ _) | (with_reducible assumption) | (with_reducible refine Below.alloc ?_ ?_ _) | (with_reducible refine Below.drew ?_) | (with_reducible refine below_drewN ?_ _) | (with_reducible refine Below.setCell ?_ ?_ _) | (with_reducible refine Below.trans ?_ (Below.mono (by with_reducible assumption) ?_)) | omega | (simp only [World.size_alloc, World.size_setCell, World.size_drew, size_drewN']; omega) | go_size))⟩
set_option maxHeartbeats 4000000 in
theorem tableOf_bad (h : FrI w A f) (ht : f.top ≤ 9223372036854775807) (hc : codeP f ≠ 0) :
    Calls Try.prog 86 #[fv f.vars A f.nn c f.top] w fun e w' => e = .returned (.tuple #[.pointer none, .iface 58 (.int .i64 (codeP f))]) ∧ Below w.heap.size w w' := by
  by_cases h0 : codeF f = 0
  · have ok := codeF_ok h0
    obtain ⟨v, hv⟩ := ok.nat
    have hS := (supF_lt ok hv).2
    have K1 := Lib.hid (fun W (hW : Below w.heap.size w W) => support_ok (c := c) (h.below hW) ok hv)
    have K2 := Lib.hid (fun W => oc_any _ hS W)
    have hp : 12 < popc (supF f.fr) ∧ codeP f = 4 := by
      unfold codeP at hc ⊢
      rw [if_neg (by simpa using h0)] at hc ⊢
      by_cases hp : 12 < popc (supF f.fr)
      · exact ⟨hp, if_pos hp⟩
      · rw [if_neg hp] at hc; exact absurd rfl hc
    rw [hp.2]
    rw [hv] at ⊢
    have hp := hp.1
    have hw64 : IntKind.u64.wrap (supF f.fr : Int) = (supF f.fr : Int) := by rw [IntKind.wrap_u64]; omega
    generalize supF f.fr = S at *
    generalize popc S = pc at *
    generalize f.nn = nn at *
    generalize f.top = tp at *
    clear ok hv h h0 hc
    go_enter Try.func86, Try.ntmps86
    go_wp2_with fail
    refine (K1.out _ (by (skip); repeat' (first | (with_reducible exact Below.refl _ _) | (with_reducible assumption) | (with_reducible refine Below.alloc ?_ ?_ _) | (with_reducible refine Below.drew ?_) | (with_reducible refine below_drewN ?_ _) | (with_reducible refine Below.setCell ?_ ?_ _) | (with_reducible refine Below.trans ?_ (Below.mono (by with_reducible assumption) ?_)) | omega | (simp only [World.size_alloc, World.size_setCell, World.size_drew, size_drewN']; omega) | go_size))).mono ?_
    rintro e w1 ⟨rfl, hb1⟩
    go_wp2_with fail
    refine (K2.out _).mono ?_
    rintro e w2 ⟨rfl, rfl⟩
    go_wp2_with fail
    go_returns
    exact ⟨rfl, (by have z0 := Below.size hb1; (try simp only [World.size_alloc, World.size_setCell, World.size_drew, size_drewN'] at z0 ⊢; skip); repeat' (first | (with_reducible exact Below.refl _ _) | (with_reducible assumption) | (with_reducible refine Below.alloc ?_ ?_ _) | (with_reducible refine Below.drew ?_) | (with_reducible refine below_drewN ?_ _) | (with_reducible refine Below.setCell ?_ ?_ _) | (with_reducible refine Below.trans ?_ (Below.mono (by with_reducible assumption) ?_)) | omega | (simp only [World.size_alloc, World.size_setCell, World.size_drew, size_drewN']; omega) | go_size))⟩
  · have K1 := Lib.hid (fun W (hW : Below w.heap.size w W) => support_bad (c := c) (h.below hW) ht h0)
    have hp : codeP f = codeF f := by unfold codeP; rw [if_pos h0]
    rw [hp]
    generalize codeF f = cf at *
    generalize f.vars = v at *
    generalize f.nn = nn at *
    generalize f.top = tp at *
    clear h hc h0 hp
    go_enter Try.func86, Try.ntmps86
    go_wp2_with fail
    refine (K1.out _ (by (skip); repeat' (first | (with_reducible exact Below.refl _ _) | (with_reducible assumption) | (with_reducible refine Below.alloc ?_ ?_ _) | (with_reducible refine Below.drew ?_) | (with_reducible refine below_drewN ?_ _) | (with_reducible refine Below.setCell ?_ ?_ _) | (with_reducible refine Below.trans ?_ (Below.mono (by with_reducible assumption) ?_)) | omega | (simp only [World.size_alloc, World.size_setCell, World.size_drew, size_drewN']; omega) | go_size))).mono ?_
    rintro e w1 ⟨rfl, hb1⟩
    go_wp2_with fail
    go_returns
    exact ⟨rfl, (by have z0 := Below.size hb1; (try simp only [World.size_alloc, World.size_setCell, World.size_drew, size_drewN'] at z0 ⊢; skip); repeat' (first | (with_reducible exact Below.refl _ _) | (with_reducible assumption) | (with_reducible refine Below.alloc ?_ ?_ _) | (with_reducible refine Below.drew ?_) | (with_reducible refine below_drewN ?_ _) | (with_reducible refine Below.setCell ?_ ?_ _) | (with_reducible refine Below.trans ?_ (Below.mono (by with_reducible assumption) ?_)) | omega | (simp only [World.size_alloc, World.size_setCell, World.size_drew, size_drewN']; omega) | go_size))⟩
set_option maxHeartbeats 4000000 in
theorem All_bad (h : FrI w A f) (ht : f.top ≤ 9223372036854775807) (hc : codeP f ≠ 0) :
    Calls Try.prog 53 #[fv f.vars A f.nn c f.top] w fun e w' => e = .returned (.tuple #[.slice none 0 0, .iface 58 (.int .i64 (codeP f))]) ∧ Below w.heap.size w w' := by
  have K1 := Lib.hid (fun W (hW : Below w.heap.size w W) => tableOf_bad (c := c) (h.below hW) ht hc)
  generalize codeP f = cf at *
  generalize f.vars = v at *
  generalize f.nn = nn at *
  generalize f.top = tp at *
  clear h hc
  go_enter Try.func53, Try.ntmps53
  go_wp2_with fail
  refine (K1.out _ (by (skip); repeat' (first | (with_reducible exact Below.refl _ _) | (with_reducible assumption) | (with_reducible refine Below.alloc ?_ ?_ _) | (with_reducible refine Below.drew ?_) | (with_reducible refine below_drewN ?_ _) | (with_reducible refine Below.setCell ?_ ?_ _) | (with_reducible refine Below.trans ?_ (Below.mono (by with_reducible assumption) ?_)) | omega | (simp only [World.size_alloc, World.size_setCell, World.size_drew, size_drewN']; omega) | go_size))).mono ?_
  rintro e w1 ⟨rfl, hb1⟩
  go_wp2_with fail
  go_returns
  exact ⟨rfl, (by have z0 := Below.size hb1; (try simp only [World.size_alloc, World.size_setCell, World.size_drew, size_drewN'] at z0 ⊢; skip); repeat' (first | (with_reducible exact Below.refl _ _) | (with_reducible assumption) | (with_reducible refine Below.alloc ?_ ?_ _) | (with_reducible refine Below.drew ?_) | (with_reducible refine below_drewN ?_ _) | (with_reducible refine Below.setCell ?_ ?_ _) | (with_reducible refine Below.trans ?_ (Below.mono (by with_reducible assumption) ?_)) | omega | (simp only [World.size_alloc, World.size_setCell, World.size_drew, size_drewN']; omega) | go_size))⟩
set_option maxHeartbeats 4000000 in
theorem counted_bad (h : FrI w A f) (ht : f.top ≤ 9223372036854775807) (hc : codeP f ≠ 0) :
    Calls Try.prog 88 #[fv f.vars A f.nn c f.top] w fun e w' => e = .returned (.tuple #[.pointer none, .slice none 0 0, .slice none 0 0, .iface 58 (.int .i64 (codeP f))]) ∧ Below w.heap.size w w' := by
  have K1 := Lib.hid (fun W (hW : Below w.heap.size w W) => tableOf_bad (c := c) (h.below hW) ht hc)
  generalize codeP f = cf at *
  generalize f.vars = v at *
  generalize f.nn = nn at *
  generalize f.top = tp at *
  clear h hc
  go_enter Try.func88, Try.ntmps88
  go_wp2_with fail
  refine (K1.out _ (by (skip); repeat' (first | (with_reducible exact Below.refl _ _) | (with_reducible assumption) | (with_reducible refine Below.alloc ?_ ?_ _) | (with_reducible refine Below.drew ?_) | (with_reducible refine below_drewN ?_ _) | (with_reducible refine Below.setCell ?_ ?_ _) | (with_reducible refine Below.trans ?_ (Below.mono (by with_reducible assumption) ?_)) | omega | (simp only [World.size_alloc, World.size_setCell, World.size_drew, size_drewN']; omega) | go_size))).mono ?_
  rintro e w1 ⟨rfl, hb1⟩
  go_wp2_with fail
  go_returns
  exact ⟨rfl, (by have z0 := Below.size hb1; (try simp only [World.size_alloc, World.size_setCell, World.size_drew, size_drewN'] at z0 ⊢; skip); repeat' (first | (with_reducible exact Below.refl _ _) | (with_reducible assumption) | (with_reducible refine Below.alloc ?_ ?_ _) | (with_reducible refine Below.drew ?_) | (with_reducible refine below_drewN ?_ _) | (with_reducible refine Below.setCell ?_ ?_ _) | (with_reducible refine Below.trans ?_ (Below.mono (by with_reducible assumption) ?_)) | omega | (simp only [World.size_alloc, World.size_setCell, World.size_drew, size_drewN']; omega) | go_size))⟩
set_option maxHeartbeats 4000000 in
theorem Essential_bad (h : FrI w A f) (ht : f.top ≤ 9223372036854775807) (hc : codeP f ≠ 0) :
    Calls Try.prog 58 #[fv f.vars A f.nn c f.top] w fun e w' => e = .returned (.tuple #[.slice none 0 0, .iface 58 (.int .i64 (codeP f))]) ∧ Below w.heap.size w w' := by
  have K1 := Lib.hid (fun W (hW : Below w.heap.size w W) => counted_bad (c := c) (h.below hW) ht hc)
  generalize codeP f = cf at *
  generalize f.vars = v at *
  generalize f.nn = nn at *
  generalize f.top = tp at *
  clear h hc
  go_enter Try.func58, Try.ntmps58
  go_wp2_with fail
  refine (K1.out _ (by (skip); repeat' (first | (with_reducible exact Below.refl _ _) | (with_reducible assumption) | (with_reducible refine Below.alloc ?_ ?_ _) | (with_reducible refine Below.drew ?_) | (with_reducible refine below_drewN ?_ _) | (with_reducible refine Below.setCell ?_ ?_ _) | (with_reducible refine Below.trans ?_ (Below.mono (by with_reducible assumption) ?_)) | omega | (simp only [World.size_alloc, World.size_setCell, World.size_drew, size_drewN']; omega) | go_size))).mono ?_
  rintro e w1 ⟨rfl, hb1⟩
  have hbz := hb1.size
  simp only [World.size_alloc] at hbz
  go_wp2_with fail
  go_returns
  exact ⟨rfl, (by have z0 := Below.size hb1; (try simp only [World.size_alloc, World.size_setCell, World.size_drew, size_drewN'] at z0 ⊢; skip); repeat' (first | (with_reducible exact Below.refl _ _) | (with_reducible assumption) | (with_reducible refine Below.alloc ?_ ?_ _) | (with_reducible refine Below.drew ?_) | (with_reducible refine below_drewN ?_ _) | (with_reducible refine Below.setCell ?_ ?_ _) | (with_reducible refine Below.trans ?_ (Below.mono (by with_reducible assumption) ?_)) | omega | (simp only [World.size_alloc, World.size_setCell, World.size_drew, size_drewN']; omega) | go_size))⟩
set_option maxHeartbeats 4000000 in
theorem Irredundant_bad (h : FrI w A f) (ht : f.top ≤ 9223372036854775807) (hc : codeP f ≠ 0) :
    Calls Try.prog 54 #[fv f.vars A f.nn c f.top] w fun e w' => e = .returned (.tuple #[.slice none 0 0, .iface 58 (.int .i64 (codeP f))]) ∧ Below w.heap.size w w' := by
  have K1 := Lib.hid (fun W (hW : Below w.heap.size w W) => counted_bad (c := c) (h.below hW) ht hc)
  generalize codeP f = cf at *
  generalize f.vars = v at *
  generalize f.nn = nn at *
  generalize f.top = tp at *
  clear h hc
  go_enter Try.func54, Try.ntmps54
  go_wp2_with fail
  refine (K1.out _ (by (skip); repeat' (first | (with_reducible exact Below.refl _ _) | (with_reducible assumption) | (with_reducible refine Below.alloc ?_ ?_ _) | (with_reducible refine Below.drew ?_) | (with_reducible refine below_drewN ?_ _) | (with_reducible refine Below.setCell ?_ ?_ _) | (with_reducible refine Below.trans ?_ (Below.mono (by with_reducible assumption) ?_)) | omega | (simp only [World.size_alloc, World.size_setCell, World.size_drew, size_drewN']; omega) | go_size))).mono ?_
  rintro e w1 ⟨rfl, hb1⟩
  have hbz := hb1.size
  simp only [World.size_alloc] at hbz
  go_wp2_with fail
  go_returns
  exact ⟨rfl, (by have z0 := Below.size hb1; (try simp only [World.size_alloc, World.size_setCell, World.size_drew, size_drewN'] at z0 ⊢; skip); repeat' (first | (with_reducible exact Below.refl _ _) | (with_reducible assumption) | (with_reducible refine Below.alloc ?_ ?_ _) | (with_reducible refine Below.drew ?_) | (with_reducible refine below_drewN ?_ _) | (with_reducible refine Below.setCell ?_ ?_ _) | (with_reducible refine Below.trans ?_ (Below.mono (by with_reducible assumption) ?_)) | omega | (simp only [World.size_alloc, World.size_setCell, World.size_drew, size_drewN']; omega) | go_size))⟩
end
end Go.Proofs.Ytedopalmfakeaaa
