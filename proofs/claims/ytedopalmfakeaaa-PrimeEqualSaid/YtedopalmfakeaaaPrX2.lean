/- Contracts of functions and lemmas, used by the proofs of the given statements. No condition beyond those that each lemma names. -/
import Derived.Test.YtedopalmfakeaaaPrX1
namespace Go.Proofs.Ytedopalmfakeaaa
open Go.RowKit Go.Sort
set_option linter.unusedSimpArgs false
set_option linter.unusedVariables false
set_option maxRecDepth 20000
/-! ## package prime: open, Implicant, Prime; the reference's CheckCube -/
attribute [local irreducible] pop popc
/-- the number of a cube's error, for a formula of v events -/
def codeQ (v : Nat) (c : Cb) : Int := if chk c ≠ 0 then chk c else if (c.1.toNat ||| c.2.toNat) / 2 ^ v = 0 then 0 else 10
theorem codeQ_ok {v : Nat} {c : Cn} (hc : okN c) : codeQ v (zc c) = if evN c / 2 ^ v = 0 then 0 else 10 := by
  unfold codeQ
  rw [if_neg (by rw [chk_of_ok hc]; decide)]
  rfl
theorem codeQ_cases (v : Nat) (c : Cb) : (chk c ≠ 0 ∧ codeQ v c = chk c) ∨ ∃ a : Cn, okN a ∧ c = zc a ∧ ((evN a / 2 ^ v = 0 ∧ codeQ v c = 0) ∨ (evN a / 2 ^ v ≠ 0 ∧ codeQ v c = 10)) := by
  by_cases h : chk c = 0
  · obtain ⟨a, ha, rfl⟩ := chk_ok h
    refine .inr ⟨a, ha, rfl, ?_⟩
    rw [codeQ_ok ha]
    by_cases h2 : evN a / 2 ^ v = 0
    · exact .inl ⟨h2, if_pos h2⟩
    · exact .inr ⟨h2, if_neg h2⟩
  · exact .inl ⟨h, by unfold codeQ; rw [if_pos h]⟩
theorem codeQ_zero {v : Nat} {c : Cb} (h : codeQ v c = 0) : ∃ a : Cn, okN a ∧ c = zc a ∧ evN a / 2 ^ v = 0 := by
  rcases codeQ_cases v c with ⟨h1, h2⟩ | ⟨a, ha, rfl, ⟨h1, h2⟩ | ⟨h1, h2⟩⟩
  · exact absurd (h2.symm.trans h) h1
  · exact ⟨a, ha, rfl, h1⟩
  · rw [h] at h2; simp at h2
theorem ev_in {v : Nat} {c : Cn} (h : evN c / 2 ^ v = 0) : evN c < 2 ^ v := by
  have hp := Nat.two_pow_pos v
  rcases Nat.lt_or_ge (evN c) (2 ^ v) with h1 | h1
  · exact h1
  · have := Nat.div_pos h1 hp
    omega
section
variable {w : World} {A : Option Addr} {cp v : Nat} {f : FrR} {c : Cb}
set_option maxHeartbeats 4000000 in
theorem rcheckCube_any {nn : Nat} {tp : Int} (hv : v ≤ 24) :
    Calls Try.prog 67 #[fv (v : Int) A nn cp tp, cbv c] w fun e w' => e = .returned (.int .i64 (codeQ v c)) ∧ Below w.heap.size w w' := by
  rcases codeQ_cases v c with ⟨h1, h2⟩ | ⟨a, ha, rfl, h3⟩
  · rw [h2]
    have K := Lib.hid (fun W => refCheck_any c W)
    obtain ⟨c1, c2⟩ := c
    have hne : (chk (c1, c2) != 0) = true := by simpa using h1
    generalize chk (c1, c2) = q at *
    clear h2 h1
    go_enter Try.func67, Try.ntmps67
    go_wp2_with fail
    refine (K.out _).mono ?_
    rintro e w1 ⟨rfl, hb1⟩
    go_wp2_with fail
    go_returns
    exact ⟨rfl, (by have z0 := Below.size hb1; (try simp only [World.size_alloc, World.size_setCell, World.size_drew, size_drewN'] at z0 ⊢; skip); repeat' (first | (with_reducible exact Below.refl _ _) | (with_reducible assumption) | (with_reducible refine Below.alloc ?_ ?_ _) | (with_reducible refine Below.drew ?_) | (with_reducible refine below_drewN ?_ _) | (with_reducible refine Below.setCell ?_ ?_ _) | (with_reducible refine Below.trans ?_ (Below.mono (by with_reducible assumption) ?_)) | omega | (simp only [World.size_alloc, World.size_setCell, World.size_drew, size_drewN']; omega) | go_size))⟩
  · have K := Lib.hid (fun W => refCheck_any (zc a) W)
    rw [chk_of_ok ha] at K
    have t1 := shr_eq (evN a) v
    have e1 := i64_or a.1 a.2 (Nat.lt_trans ha.1 (by decide)) (Nat.lt_trans ha.2.1 (by decide))
    obtain ⟨c1, c2⟩ := a
    rw [show (c1, c2).1 ||| (c1, c2).2 = evN (c1, c2) from rfl] at e1
    rcases h3 with ⟨h3, h4⟩ | ⟨h3, h4⟩
    · rw [h4]
      rw [h3] at t1
      generalize evN (c1, c2) = E at *
      clear h3 h4 ha
      go_enter Try.func67, Try.ntmps67
      go_wp2_with fail
      refine (K.out _).mono ?_
      rintro e w1 ⟨rfl, hb1⟩
      have hb1z := hb1.size
      simp only [World.size_alloc] at hb1z
      have x0 : w1.cell? ⟨w.heap.size + 1, 0, none⟩ = some (.int .i64 (c1 : Int)) := (below_at hb1 (w.heap.size + 1) 0 (by simp)).trans (by simp [go_sem])
      have x1 : w1.cell? ⟨w.heap.size + 1, 1, none⟩ = some (.int .i64 (c2 : Int)) := (below_at hb1 (w.heap.size + 1) 1 (by simp)).trans (by simp [go_sem])
      have x2 : w1.cell? ⟨w.heap.size, 0, none⟩ = some (.int .i64 (v : Int)) := (below_at hb1 w.heap.size 0 (by simp; omega)).trans (by simp [go_sem])
      go_wp2_with fail
      go_returns
      exact ⟨rfl, (by have z0 := Below.size hb1; (try simp only [World.size_alloc, World.size_setCell, World.size_drew, size_drewN'] at z0 ⊢; skip); repeat' (first | (with_reducible exact Below.refl _ _) | (with_reducible assumption) | (with_reducible refine Below.alloc ?_ ?_ _) | (with_reducible refine Below.drew ?_) | (with_reducible refine below_drewN ?_ _) | (with_reducible refine Below.setCell ?_ ?_ _) | (with_reducible refine Below.trans ?_ (Below.mono (by with_reducible assumption) ?_)) | omega | (simp only [World.size_alloc, World.size_setCell, World.size_drew, size_drewN']; omega) | go_size))⟩
    · rw [h4]
      have hq : ((evN (c1, c2) / 2 ^ v : Nat) : Int) ≠ 0 := by omega
      generalize evN (c1, c2) / 2 ^ v = r at *
      generalize evN (c1, c2) = E at *
      clear h3 h4 ha
      go_enter Try.func67, Try.ntmps67
      go_wp2_with fail
      refine (K.out _).mono ?_
      rintro e w1 ⟨rfl, hb1⟩
      have hb1z := hb1.size
      simp only [World.size_alloc] at hb1z
      have x0 : w1.cell? ⟨w.heap.size + 1, 0, none⟩ = some (.int .i64 (c1 : Int)) := (below_at hb1 (w.heap.size + 1) 0 (by simp)).trans (by simp [go_sem])
      have x1 : w1.cell? ⟨w.heap.size + 1, 1, none⟩ = some (.int .i64 (c2 : Int)) := (below_at hb1 (w.heap.size + 1) 1 (by simp)).trans (by simp [go_sem])
      have x2 : w1.cell? ⟨w.heap.size, 0, none⟩ = some (.int .i64 (v : Int)) := (below_at hb1 w.heap.size 0 (by simp; omega)).trans (by simp [go_sem])
      go_wp2_with fail
      go_returns
      exact ⟨rfl, (by have z0 := Below.size hb1; (try simp only [World.size_alloc, World.size_setCell, World.size_drew, size_drewN'] at z0 ⊢; skip); repeat' (first | (with_reducible exact Below.refl _ _) | (with_reducible assumption) | (with_reducible refine Below.alloc ?_ ?_ _) | (with_reducible refine Below.drew ?_) | (with_reducible refine below_drewN ?_ _) | (with_reducible refine Below.setCell ?_ ?_ _) | (with_reducible refine Below.trans ?_ (Below.mono (by with_reducible assumption) ?_)) | omega | (simp only [World.size_alloc, World.size_setCell, World.size_drew, size_drewN']; omega) | go_size))⟩
/-- the number of the error of a formula and a cube -/
def codeI (f : FrR) (c : Cb) : Int := if codeP f ≠ 0 then codeP f else codeQ f.vars.toNat c
set_option maxHeartbeats 4000000 in
theorem open_bad (h : FrI w A f) (ht : f.top ≤ 9223372036854775807) (hc : codeI f c ≠ 0) :
    Calls Try.prog 105 #[fv f.vars A f.nn cp f.top, cbv c] w fun e w' => e = .returned (.tuple #[.pointer none, .iface 58 (.int .i64 (codeI f c))]) ∧ Below w.heap.size w w' := by
  by_cases h0 : codeP f = 0
  · have hok := codeP_ok h0
    have ok := hok.1
    obtain ⟨v, hv⟩ := ok.nat
    have v1 : v ≤ 24 := by have := ok.v1; omega
    have K1 := Lib.hid (fun W (hW : Below w.heap.size w W) => tableOf_ok (c := cp) (h.below hW) ok hv hok.2)
    have e0 : codeI f c = codeQ v c := by unfold codeI; rw [if_neg (by simpa using h0), hv]; rfl
    rw [e0] at hc ⊢
    rw [hv]
    generalize (evL (supF f.fr) 24).length = n at *
    generalize evF (supF f.fr) = ev at *
    generalize f.fr.val = V at *
    generalize f.nn = nn at *
    generalize f.top = tp at *
    clear h ok hok hv h0 e0
    rcases codeQ_cases v c with ⟨h1, h2⟩ | ⟨a, ha, rfl, ⟨h3, h4⟩ | ⟨h3, h4⟩⟩
    · have K2 := Lib.hid (fun W => check_no c h1 W)
      rw [h2]
      obtain ⟨c1, c2⟩ := c
      generalize chk (c1, c2) = q at *
      clear h2 hc
      go_enter Try.func105, Try.ntmps105
      go_wp2_with fail
      refine (K1.out _ (by (skip); repeat' (first | (with_reducible exact Below.refl _ _) | (with_reducible assumption) | (with_reducible refine Below.alloc ?_ ?_ _) | (with_reducible refine Below.drew ?_) | (with_reducible refine below_drewN ?_ _) | (with_reducible refine Below.setCell ?_ ?_ _) | (with_reducible refine Below.trans ?_ (Below.mono (by with_reducible assumption) ?_)) | omega | (simp only [World.size_alloc, World.size_setCell, World.size_drew, size_drewN']; omega) | go_size))).mono ?_
      rintro e w1 ⟨⟨p, rfl, ht1⟩, hb1⟩
      have hb1z := hb1.size
      simp only [World.size_alloc] at hb1z
      have hbA : Below w.heap.size w w1 := (by have z0 := Below.size hb1; (try simp only [World.size_alloc, World.size_setCell, World.size_drew, size_drewN'] at z0 ⊢; skip); repeat' (first | (with_reducible exact Below.refl _ _) | (with_reducible assumption) | (with_reducible refine Below.alloc ?_ ?_ _) | (with_reducible refine Below.drew ?_) | (with_reducible refine below_drewN ?_ _) | (with_reducible refine Below.setCell ?_ ?_ _) | (with_reducible refine Below.trans ?_ (Below.mono (by with_reducible assumption) ?_)) | omega | (simp only [World.size_alloc, World.size_setCell, World.size_drew, size_drewN']; omega) | go_size))
      have x0 : w1.cell? ⟨w.heap.size + 1, 0, none⟩ = some (.int .i64 c1) := (below_at hb1 (w.heap.size + 1) 0 (by simp)).trans (by simp [go_sem])
      have x1 : w1.cell? ⟨w.heap.size + 1, 1, none⟩ = some (.int .i64 c2) := (below_at hb1 (w.heap.size + 1) 1 (by simp)).trans (by simp [go_sem])
      clear ht1 hb1
      go_wp2_with fail
      refine (K2.out _).mono ?_
      rintro e w2 ⟨rfl, hb2⟩
      go_wp2_with fail
      go_returns
      exact ⟨rfl, (by have z0 := Below.size hbA; have z1 := Below.size hb2; (try simp only [World.size_alloc, World.size_setCell, World.size_drew, size_drewN'] at z0 z1 ⊢; skip); repeat' (first | (with_reducible exact Below.refl _ _) | (with_reducible assumption) | (with_reducible refine Below.alloc ?_ ?_ _) | (with_reducible refine Below.drew ?_) | (with_reducible refine below_drewN ?_ _) | (with_reducible refine Below.setCell ?_ ?_ _) | (with_reducible refine Below.trans ?_ (Below.mono (by with_reducible assumption) ?_)) | omega | (simp only [World.size_alloc, World.size_setCell, World.size_drew, size_drewN']; omega) | go_size))⟩
    · exact absurd h4 hc
    · have K2 := Lib.hid (fun W => check_ok a ha W)
      rw [h4]
      have t1 := shr_eq (evN a) v
      have e1 := i64_or a.1 a.2 (Nat.lt_trans ha.1 (by decide)) (Nat.lt_trans ha.2.1 (by decide))
      obtain ⟨c1, c2⟩ := a
      rw [show (c1, c2).1 ||| (c1, c2).2 = evN (c1, c2) from rfl] at e1
      have hq : ((evN (c1, c2) / 2 ^ v : Nat) : Int) ≠ 0 := by omega
      generalize evN (c1, c2) / 2 ^ v = r at *
      generalize evN (c1, c2) = E at *
      clear h3 h4 hc ha
      go_enter Try.func105, Try.ntmps105
      go_wp2_with fail
      refine (K1.out _ (by (skip); repeat' (first | (with_reducible exact Below.refl _ _) | (with_reducible assumption) | (with_reducible refine Below.alloc ?_ ?_ _) | (with_reducible refine Below.drew ?_) | (with_reducible refine below_drewN ?_ _) | (with_reducible refine Below.setCell ?_ ?_ _) | (with_reducible refine Below.trans ?_ (Below.mono (by with_reducible assumption) ?_)) | omega | (simp only [World.size_alloc, World.size_setCell, World.size_drew, size_drewN']; omega) | go_size))).mono ?_
      rintro e w1 ⟨⟨p, rfl, ht1⟩, hb1⟩
      have hb1z := hb1.size
      simp only [World.size_alloc] at hb1z
      have hbA : Below w.heap.size w w1 := (by have z0 := Below.size hb1; (try simp only [World.size_alloc, World.size_setCell, World.size_drew, size_drewN'] at z0 ⊢; skip); repeat' (first | (with_reducible exact Below.refl _ _) | (with_reducible assumption) | (with_reducible refine Below.alloc ?_ ?_ _) | (with_reducible refine Below.drew ?_) | (with_reducible refine below_drewN ?_ _) | (with_reducible refine Below.setCell ?_ ?_ _) | (with_reducible refine Below.trans ?_ (Below.mono (by with_reducible assumption) ?_)) | omega | (simp only [World.size_alloc, World.size_setCell, World.size_drew, size_drewN']; omega) | go_size))
      have x0 : w1.cell? ⟨w.heap.size + 1, 0, none⟩ = some (.int .i64 (c1 : Int)) := (below_at hb1 (w.heap.size + 1) 0 (by simp)).trans (by simp [go_sem])
      have x1 : w1.cell? ⟨w.heap.size + 1, 1, none⟩ = some (.int .i64 (c2 : Int)) := (below_at hb1 (w.heap.size + 1) 1 (by simp)).trans (by simp [go_sem])
      have x2 : w1.cell? ⟨w.heap.size, 0, none⟩ = some (.int .i64 (v : Int)) := (below_at hb1 w.heap.size 0 (by simp; omega)).trans (by simp [go_sem])
      clear ht1 hb1
      go_wp2_with fail
      refine (K2.out _).mono ?_
      rintro e w2 ⟨rfl, hb2⟩
      have y0 := (below_at hb2 (w.heap.size + 1) 0 (by omega)).trans x0
      have y1 := (below_at hb2 (w.heap.size + 1) 1 (by omega)).trans x1
      have y2 := (below_at hb2 w.heap.size 0 (by omega)).trans x2
      have hbB : Below w.heap.size w w2 := (by have z0 := Below.size hbA; have z1 := Below.size hb2; (try simp only [World.size_alloc, World.size_setCell, World.size_drew, size_drewN'] at z0 z1 ⊢; skip); repeat' (first | (with_reducible exact Below.refl _ _) | (with_reducible assumption) | (with_reducible refine Below.alloc ?_ ?_ _) | (with_reducible refine Below.drew ?_) | (with_reducible refine below_drewN ?_ _) | (with_reducible refine Below.setCell ?_ ?_ _) | (with_reducible refine Below.trans ?_ (Below.mono (by with_reducible assumption) ?_)) | omega | (simp only [World.size_alloc, World.size_setCell, World.size_drew, size_drewN']; omega) | go_size))
      clear x0 x1 x2 hb2 hbA
      go_wp2_with fail
      go_returns
      exact ⟨rfl, hbB⟩
  · have K1 := Lib.hid (fun W (hW : Below w.heap.size w W) => tableOf_bad (c := cp) (h.below hW) ht h0)
    have e0 : codeI f c = codeP f := by unfold codeI; rw [if_pos h0]
    rw [e0]
    generalize codeP f = cf at *
    generalize f.vars = v at *
    generalize f.nn = nn at *
    generalize f.top = tp at *
    clear h hc h0 e0
    obtain ⟨c1, c2⟩ := c
    go_enter Try.func105, Try.ntmps105
    go_wp2_with fail
    refine (K1.out _ (by (skip); repeat' (first | (with_reducible exact Below.refl _ _) | (with_reducible assumption) | (with_reducible refine Below.alloc ?_ ?_ _) | (with_reducible refine Below.drew ?_) | (with_reducible refine below_drewN ?_ _) | (with_reducible refine Below.setCell ?_ ?_ _) | (with_reducible refine Below.trans ?_ (Below.mono (by with_reducible assumption) ?_)) | omega | (simp only [World.size_alloc, World.size_setCell, World.size_drew, size_drewN']; omega) | go_size))).mono ?_
    rintro e w1 ⟨rfl, hb1⟩
    go_wp2_with fail
    go_returns
    exact ⟨rfl, (by have z0 := Below.size hb1; (try simp only [World.size_alloc, World.size_setCell, World.size_drew, size_drewN'] at z0 ⊢; skip); repeat' (first | (with_reducible exact Below.refl _ _) | (with_reducible assumption) | (with_reducible refine Below.alloc ?_ ?_ _) | (with_reducible refine Below.drew ?_) | (with_reducible refine below_drewN ?_ _) | (with_reducible refine Below.setCell ?_ ?_ _) | (with_reducible refine Below.trans ?_ (Below.mono (by with_reducible assumption) ?_)) | omega | (simp only [World.size_alloc, World.size_setCell, World.size_drew, size_drewN']; omega) | go_size))⟩
set_option maxHeartbeats 4000000 in
theorem open_ok {a : Cn} (h : FrI w A f) (ok : FrOk f) (hv : f.vars = v) (h7 : popc (supF f.fr) ≤ 12) (ha : okN a) (hev : evN a / 2 ^ v = 0) :
    Calls Try.prog 105 #[fv (v : Int) A f.nn cp f.top, cbv (zc a)] w fun e w' => (∃ p, e = .returned (.tuple #[.pointer (some ⟨p, 0, none⟩), .nilIface]) ∧ TabI w' p (evL (supF f.fr) 24).length (evF (supF f.fr)) (fun s => f.fr.val (widN (evL (supF f.fr) 24).length (evF (supF f.fr)) s))) ∧ Below w.heap.size w w' := by
  have v1 : v ≤ 24 := by have := ok.v1; omega
  have K1 := Lib.hid (fun W (hW : Below w.heap.size w W) => tableOf_ok (c := cp) (h.below hW) ok hv h7)
  have K2 := Lib.hid (fun W => check_ok a ha W)
  have t1 := shr_eq (evN a) v
  rw [hev] at t1
  have e1 := i64_or a.1 a.2 (Nat.lt_trans ha.1 (by decide)) (Nat.lt_trans ha.2.1 (by decide))
  obtain ⟨c1, c2⟩ := a
  rw [show (c1, c2).1 ||| (c1, c2).2 = evN (c1, c2) from rfl] at e1
  generalize evN (c1, c2) = E at *
  generalize (evL (supF f.fr) 24).length = n at *
  generalize evF (supF f.fr) = ev at *
  generalize f.fr.val = V at *
  generalize f.nn = nn at *
  generalize f.top = tp at *
  clear h ok hv hev ha h7
  go_enter Try.func105, Try.ntmps105
  go_wp2_with fail
  refine (K1.out _ (by (skip); repeat' (first | (with_reducible exact Below.refl _ _) | (with_reducible assumption) | (with_reducible refine Below.alloc ?_ ?_ _) | (with_reducible refine Below.drew ?_) | (with_reducible refine below_drewN ?_ _) | (with_reducible refine Below.setCell ?_ ?_ _) | (with_reducible refine Below.trans ?_ (Below.mono (by with_reducible assumption) ?_)) | omega | (simp only [World.size_alloc, World.size_setCell, World.size_drew, size_drewN']; omega) | go_size))).mono ?_
  rintro e w1 ⟨⟨p, rfl, ht1⟩, hb1⟩
  have hb1z := hb1.size
  simp only [World.size_alloc] at hb1z
  have hbA : Below w.heap.size w w1 := (by have z0 := Below.size hb1; (try simp only [World.size_alloc, World.size_setCell, World.size_drew, size_drewN'] at z0 ⊢; skip); repeat' (first | (with_reducible exact Below.refl _ _) | (with_reducible assumption) | (with_reducible refine Below.alloc ?_ ?_ _) | (with_reducible refine Below.drew ?_) | (with_reducible refine below_drewN ?_ _) | (with_reducible refine Below.setCell ?_ ?_ _) | (with_reducible refine Below.trans ?_ (Below.mono (by with_reducible assumption) ?_)) | omega | (simp only [World.size_alloc, World.size_setCell, World.size_drew, size_drewN']; omega) | go_size))
  have x0 : w1.cell? ⟨w.heap.size + 1, 0, none⟩ = some (.int .i64 (c1 : Int)) := (below_at hb1 (w.heap.size + 1) 0 (by simp)).trans (by simp [go_sem])
  have x1 : w1.cell? ⟨w.heap.size + 1, 1, none⟩ = some (.int .i64 (c2 : Int)) := (below_at hb1 (w.heap.size + 1) 1 (by simp)).trans (by simp [go_sem])
  have x2 : w1.cell? ⟨w.heap.size, 0, none⟩ = some (.int .i64 (v : Int)) := (below_at hb1 w.heap.size 0 (by simp; omega)).trans (by simp [go_sem])
  have HTB := Lib.hid (fun W (hW : Below w1.heap.size w1 W) => ht1.below hW)
  clear ht1 hb1
  go_wp2_with fail
  refine (K2.out _).mono ?_
  rintro e w2 ⟨rfl, hb2⟩
  have y0 := (below_at hb2 (w.heap.size + 1) 0 (by omega)).trans x0
  have y1 := (below_at hb2 (w.heap.size + 1) 1 (by omega)).trans x1
  have y2 := (below_at hb2 w.heap.size 0 (by omega)).trans x2
  have hbB : Below w.heap.size w w2 := (by have z0 := Below.size hbA; have z1 := Below.size hb2; (try simp only [World.size_alloc, World.size_setCell, World.size_drew, size_drewN'] at z0 z1 ⊢; skip); repeat' (first | (with_reducible exact Below.refl _ _) | (with_reducible assumption) | (with_reducible refine Below.alloc ?_ ?_ _) | (with_reducible refine Below.drew ?_) | (with_reducible refine below_drewN ?_ _) | (with_reducible refine Below.setCell ?_ ?_ _) | (with_reducible refine Below.trans ?_ (Below.mono (by with_reducible assumption) ?_)) | omega | (simp only [World.size_alloc, World.size_setCell, World.size_drew, size_drewN']; omega) | go_size))
  have HT2 := Lib.hid (HTB.out w2 hb2)
  clear x0 x1 x2 hb2 hbA HTB
  go_wp2_with fail
  go_returns
  exact ⟨⟨p, rfl, HT2.out⟩, hbB⟩
set_option maxHeartbeats 4000000 in
theorem ImplicantX_bad (h : FrI w A f) (ht : f.top ≤ 9223372036854775807) (hc : codeI f c ≠ 0) :
    Calls Try.prog 65 #[fv f.vars A f.nn cp f.top, cbv c] w fun e w' => e = .returned (.tuple #[.bool false, .iface 58 (.int .i64 (codeI f c))]) ∧ Below w.heap.size w w' := by
  have K1 := Lib.hid (fun W (hW : Below w.heap.size w W) => open_bad (cp := cp) (h.below hW) ht hc)
  generalize codeI f c = q at *
  generalize f.vars = v at *
  generalize f.nn = nn at *
  generalize f.top = tp at *
  clear h hc
  obtain ⟨c1, c2⟩ := c
  go_enter Try.func65, Try.ntmps65
  go_wp2_with fail
  refine (K1.out _ (by (skip); repeat' (first | (with_reducible exact Below.refl _ _) | (with_reducible assumption) | (with_reducible refine Below.alloc ?_ ?_ _) | (with_reducible refine Below.drew ?_) | (with_reducible refine below_drewN ?_ _) | (with_reducible refine Below.setCell ?_ ?_ _) | (with_reducible refine Below.trans ?_ (Below.mono (by with_reducible assumption) ?_)) | omega | (simp only [World.size_alloc, World.size_setCell, World.size_drew, size_drewN']; omega) | go_size))).mono ?_
  rintro e w1 ⟨rfl, hb1⟩
  go_wp2_with fail
  go_returns
  exact ⟨rfl, (by have z0 := Below.size hb1; (try simp only [World.size_alloc, World.size_setCell, World.size_drew, size_drewN'] at z0 ⊢; skip); repeat' (first | (with_reducible exact Below.refl _ _) | (with_reducible assumption) | (with_reducible refine Below.alloc ?_ ?_ _) | (with_reducible refine Below.drew ?_) | (with_reducible refine below_drewN ?_ _) | (with_reducible refine Below.setCell ?_ ?_ _) | (with_reducible refine Below.trans ?_ (Below.mono (by with_reducible assumption) ?_)) | omega | (simp only [World.size_alloc, World.size_setCell, World.size_drew, size_drewN']; omega) | go_size))⟩
set_option maxHeartbeats 4000000 in
theorem PrimeX_bad (h : FrI w A f) (ht : f.top ≤ 9223372036854775807) (hc : codeI f c ≠ 0) :
    Calls Try.prog 66 #[fv f.vars A f.nn cp f.top, cbv c] w fun e w' => e = .returned (.tuple #[.bool false, .iface 58 (.int .i64 (codeI f c))]) ∧ Below w.heap.size w w' := by
  have K1 := Lib.hid (fun W (hW : Below w.heap.size w W) => open_bad (cp := cp) (h.below hW) ht hc)
  generalize codeI f c = q at *
  generalize f.vars = v at *
  generalize f.nn = nn at *
  generalize f.top = tp at *
  clear h hc
  obtain ⟨c1, c2⟩ := c
  go_enter Try.func66, Try.ntmps66
  go_wp2_with fail
  refine (K1.out _ (by (skip); repeat' (first | (with_reducible exact Below.refl _ _) | (with_reducible assumption) | (with_reducible refine Below.alloc ?_ ?_ _) | (with_reducible refine Below.drew ?_) | (with_reducible refine below_drewN ?_ _) | (with_reducible refine Below.setCell ?_ ?_ _) | (with_reducible refine Below.trans ?_ (Below.mono (by with_reducible assumption) ?_)) | omega | (simp only [World.size_alloc, World.size_setCell, World.size_drew, size_drewN']; omega) | go_size))).mono ?_
  rintro e w1 ⟨rfl, hb1⟩
  go_wp2_with fail
  go_returns
  exact ⟨rfl, (by have z0 := Below.size hb1; (try simp only [World.size_alloc, World.size_setCell, World.size_drew, size_drewN'] at z0 ⊢; skip); repeat' (first | (with_reducible exact Below.refl _ _) | (with_reducible assumption) | (with_reducible refine Below.alloc ?_ ?_ _) | (with_reducible refine Below.drew ?_) | (with_reducible refine below_drewN ?_ _) | (with_reducible refine Below.setCell ?_ ?_ _) | (with_reducible refine Below.trans ?_ (Below.mono (by with_reducible assumption) ?_)) | omega | (simp only [World.size_alloc, World.size_setCell, World.size_drew, size_drewN']; omega) | go_size))⟩
set_option maxHeartbeats 4000000 in
theorem ImplicantX_ok {a : Cn} {I : Cn → Bool} (h : FrI w A f) (ok : FrOk f) (hv : f.vars = v) (h7 : popc (supF f.fr) ≤ 12) (ha : okN a) (hev : evN a / 2 ^ v = 0) (hI : ∀ c, I c = true ↔ impN (supF f.fr) f.fr.val (onS (supF f.fr) c)) :
    Calls Try.prog 65 #[fv (v : Int) A f.nn cp f.top, cbv (zc a)] w fun e w' => e = .returned (.tuple #[.bool (I a), .nilIface]) ∧ Below w.heap.size w w' := by
  have hS : supF f.fr < 16777216 := (supF_lt ok hv).2
  have K1 := Lib.hid (fun W (hW : Below w.heap.size w W) => open_ok (cp := cp) (h.below hW) ok hv h7 ha hev)
  have K2 := Lib.hid (fun W p (ht : TabI W p (evL (supF f.fr) 24).length (evF (supF f.fr)) (fun s => f.fr.val (widN (evL (supF f.fr) 24).length (evF (supF f.fr)) s))) => implicant_B (I := I) ht (evL_12 h7) (evL_evs hS).lt ha ((hI a).trans (impR_S (evL_evs hS) ha fun _ _ => rfl).symm))
  generalize (evL (supF f.fr) 24).length = n at *
  generalize evF (supF f.fr) = ev at *
  generalize f.nn = nn at *
  generalize f.top = tp at *
  obtain ⟨V, hV⟩ : ∃ V, V = f.fr.val := ⟨_, rfl⟩
  rw [← hV] at K1 K2
  generalize I a = b at *
  clear h ok hv hev ha h7 hI hV hS
  obtain ⟨c1, c2⟩ := a
  go_enter Try.func65, Try.ntmps65
  go_wp2_with fail
  refine (K1.out _ (by (skip); repeat' (first | (with_reducible exact Below.refl _ _) | (with_reducible assumption) | (with_reducible refine Below.alloc ?_ ?_ _) | (with_reducible refine Below.drew ?_) | (with_reducible refine below_drewN ?_ _) | (with_reducible refine Below.setCell ?_ ?_ _) | (with_reducible refine Below.trans ?_ (Below.mono (by with_reducible assumption) ?_)) | omega | (simp only [World.size_alloc, World.size_setCell, World.size_drew, size_drewN']; omega) | go_size))).mono ?_
  rintro e w1 ⟨⟨p, rfl, ht1⟩, hb1⟩
  have x0 : w1.cell? ⟨w.heap.size + 1, 0, none⟩ = some (.int .i64 (c1 : Int)) := (below_at hb1 (w.heap.size + 1) 0 (by simp)).trans (by simp [go_sem])
  have x1 : w1.cell? ⟨w.heap.size + 1, 1, none⟩ = some (.int .i64 (c2 : Int)) := (below_at hb1 (w.heap.size + 1) 1 (by simp)).trans (by simp [go_sem])
  have HT := Lib.hid (K2.out _ p ht1)
  clear ht1
  go_wp2_with fail
  refine HT.out.mono ?_
  rintro e w2 ⟨rfl, hb2⟩
  go_wp2_with fail
  go_returns
  exact ⟨rfl, (by have z0 := Below.size hb1; have z1 := Below.size hb2; (try simp only [World.size_alloc, World.size_setCell, World.size_drew, size_drewN'] at z0 z1 ⊢; skip); repeat' (first | (with_reducible exact Below.refl _ _) | (with_reducible assumption) | (with_reducible refine Below.alloc ?_ ?_ _) | (with_reducible refine Below.drew ?_) | (with_reducible refine below_drewN ?_ _) | (with_reducible refine Below.setCell ?_ ?_ _) | (with_reducible refine Below.trans ?_ (Below.mono (by with_reducible assumption) ?_)) | omega | (simp only [World.size_alloc, World.size_setCell, World.size_drew, size_drewN']; omega) | go_size))⟩
set_option maxHeartbeats 4000000 in
theorem PrimeX_ok {a : Cn} {I : Cn → Bool} (h : FrI w A f) (ok : FrOk f) (hv : f.vars = v) (h7 : popc (supF f.fr) ≤ 12) (ha : okN a) (hev : evN a / 2 ^ v = 0) (hI : ∀ c, I c = true ↔ impN (supF f.fr) f.fr.val (onS (supF f.fr) c)) :
    Calls Try.prog 66 #[fv (v : Int) A f.nn cp f.top, cbv (zc a)] w fun e w' => e = .returned (.tuple #[.bool (primeI I a), .nilIface]) ∧ Below w.heap.size w w' := by
  have hS : supF f.fr < 16777216 := (supF_lt ok hv).2
  have K1 := Lib.hid (fun W (hW : Below w.heap.size w W) => open_ok (cp := cp) (h.below hW) ok hv h7 ha hev)
  have K2 := Lib.hid (fun W p (ht : TabI W p (evL (supF f.fr) 24).length (evF (supF f.fr)) (fun s => f.fr.val (widN (evL (supF f.fr) 24).length (evF (supF f.fr)) s))) => prime_any (I := I) ht (evL_12 h7) (evL_evs hS).lt ha (fun d hd => (hI d).trans (impR_S (evL_evs hS) hd fun _ _ => rfl).symm))
  generalize (evL (supF f.fr) 24).length = n at *
  generalize evF (supF f.fr) = ev at *
  generalize f.nn = nn at *
  generalize f.top = tp at *
  obtain ⟨V, hV⟩ : ∃ V, V = f.fr.val := ⟨_, rfl⟩
  rw [← hV] at K1 K2
  generalize primeI I a = b at *
  clear h ok hv hev ha h7 hI hV hS
  obtain ⟨c1, c2⟩ := a
  go_enter Try.func66, Try.ntmps66
  go_wp2_with fail
  refine (K1.out _ (by (skip); repeat' (first | (with_reducible exact Below.refl _ _) | (with_reducible assumption) | (with_reducible refine Below.alloc ?_ ?_ _) | (with_reducible refine Below.drew ?_) | (with_reducible refine below_drewN ?_ _) | (with_reducible refine Below.setCell ?_ ?_ _) | (with_reducible refine Below.trans ?_ (Below.mono (by with_reducible assumption) ?_)) | omega | (simp only [World.size_alloc, World.size_setCell, World.size_drew, size_drewN']; omega) | go_size))).mono ?_
  rintro e w1 ⟨⟨p, rfl, ht1⟩, hb1⟩
  have x0 : w1.cell? ⟨w.heap.size + 1, 0, none⟩ = some (.int .i64 (c1 : Int)) := (below_at hb1 (w.heap.size + 1) 0 (by simp)).trans (by simp [go_sem])
  have x1 : w1.cell? ⟨w.heap.size + 1, 1, none⟩ = some (.int .i64 (c2 : Int)) := (below_at hb1 (w.heap.size + 1) 1 (by simp)).trans (by simp [go_sem])
  have HT := Lib.hid (K2.out _ p ht1)
  clear ht1
  go_wp2_with fail
  refine HT.out.mono ?_
  rintro e w2 ⟨rfl, hb2⟩
  go_wp2_with fail
  go_returns
  exact ⟨rfl, (by have z0 := Below.size hb1; have z1 := Below.size hb2; (try simp only [World.size_alloc, World.size_setCell, World.size_drew, size_drewN'] at z0 z1 ⊢; skip); repeat' (first | (with_reducible exact Below.refl _ _) | (with_reducible assumption) | (with_reducible refine Below.alloc ?_ ?_ _) | (with_reducible refine Below.drew ?_) | (with_reducible refine below_drewN ?_ _) | (with_reducible refine Below.setCell ?_ ?_ _) | (with_reducible refine Below.trans ?_ (Below.mono (by with_reducible assumption) ?_)) | omega | (simp only [World.size_alloc, World.size_setCell, World.size_drew, size_drewN']; omega) | go_size))⟩
end
end Go.Proofs.Ytedopalmfakeaaa
