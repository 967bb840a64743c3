/- Contracts of functions and lemmas, used by the proofs of the given statements. No condition beyond those that each lemma names. -/
import Derived.Test.YtedopalmfakeaaaLawPr6
import Derived.Test.YtedopalmfakeaaaPrX7
import Derived.Test.YtedopalmfakeaaaPrX8
namespace Go.Proofs.Ytedopalmfakeaaa
open Go.RowKit Go.Sort
set_option linter.unusedSimpArgs false
set_option linter.unusedVariables false
set_option maxRecDepth 20000
/-! ## law13: PrimeEqual -/
attribute [local irreducible] pop popc
theorem val_eq {S S' v : Nat} {V V' : Nat → Bool} {s s' : List Cn} {b : Bool} (hS : S < 16777216) (hS' : S' < 16777216) (hSv : S < 2 ^ v) (hSv' : S' < 2 ^ v) (hV : ∀ t, V (t &&& S) = V t) (hV' : ∀ t, V' (t &&& S') = V' t) (hs : PrmS S V s) (hs' : PrmS S' V' s') (hb : b = true ↔ ∀ t, t < 2 ^ v → V t = V' t) : b = decide (s = s') := by
  rw [Bool.eq_iff_iff, hb, decide_eq_true_iff]
  have key := prm_equal hS hS' hV hV'
  have hm : ∀ t, t < 2 ^ v → True := fun _ _ => trivial
  constructor
  · intro h
    have h2 : ∀ t, V t = V' t := fun t => by
      have e1 : ∀ T (U : Nat → Bool), T < 2 ^ v → (∀ t, U (t &&& T) = U t) → U t = U (t % 2 ^ v) := fun T U hT hU => by
        rw [← hU t, ← hU (t % 2 ^ v)]
        congr 1
        refine Nat.eq_of_testBit_eq fun i => ?_
        rw [Nat.testBit_and, Nat.testBit_and, Nat.testBit_mod_two_pow]
        by_cases hi : i < v
        · simp [hi]
        · rw [Nat.testBit_lt_two_pow (Nat.lt_of_lt_of_le hT (Nat.pow_le_pow_right (by omega) (show v ≤ i by omega)))]
          simp
      rw [e1 S V hSv hV, e1 S' V' hSv' hV']
      exact h _ (Nat.mod_lt _ (Nat.two_pow_pos v))
    have h3 := key.2 h2
    refine PrmS.uniq hs ⟨hs'.1, fun x => (hs'.2 x).trans (h3 x).symm⟩
  · rintro rfl t _
    exact key.1 (fun p => (hs.2 p).symm.trans (hs'.2 p)) t
section
variable {w : World} {A B : Option Addr} {ca cb : Nat} {f g : FrR}
set_option maxHeartbeats 8000000 in
theorem primeEqual_law (hf : FrI w A f) (htf : f.top ≤ 9223372036854775807) (hg : FrI w B g) (htg : g.top ≤ 9223372036854775807) (hvf : -9223372036854775808 ≤ f.vars ∧ f.vars ≤ 9223372036854775807) (hvg : -9223372036854775808 ≤ g.vars ∧ g.vars ≤ 9223372036854775807) :
    Calls Try.prog 14 #[fv f.vars A f.nn ca f.top, fv g.vars B g.nn cb g.top] w fun e w' => e = .returned (.bool true) ∧ Below w.heap.size w w' := by
  have K1 := Lib.hid (fun W (hW : Below w.heap.size w W) => valid13_any (c := ca) (hf.below hW) htf)
  have K2 := Lib.hid (fun W (hW : Below w.heap.size w W) => valid13_any (c := cb) (hg.below hW) htg)
  by_cases hvd : codeP f = 0 ∧ popc (supF f.fr) ≤ 7
  · rw [decide_eq_true hvd] at K1
    by_cases hvd2 : codeP g = 0 ∧ popc (supF g.fr) ≤ 7
    · rw [decide_eq_true hvd2] at K2
      by_cases hvv : f.vars = g.vars
      · by_cases h7 : f.vars ≤ 7
        · have okf := (codeP_ok hvd.1).1
          have okg := (codeP_ok hvd2.1).1
          obtain ⟨v, hv⟩ := okf.nat
          have hv2 : g.vars = v := by omega
          have v7 : v ≤ 7 := by omega
          have hSf := supF_lt okf hv
          have hSg := supF_lt okg hv2
          have K3 := Lib.hid (fun W (hW : Below w.heap.size w W) => all13_7 (c := ca) (hf.below hW) okf hv hvd.2)
          have K4 := Lib.hid (fun W (hW : Below w.heap.size w W) => all13_7 (c := cb) (hg.below hW) okg hv2 hvd2.2)
          have K5 := Lib.hid (fun W (hW : Below w.heap.size w W) => tequal_ok (ca := ca) (cb := cb) (hf.below hW) okf hv (hg.below hW) okg hv2 (by omega))
          have HV := Lib.hid (fun s s' b hs hs' hb => val_eq (s := s) (s' := s') (b := b) hSf.2 hSg.2 hSf.1 hSg.1 (sup_val okf) (sup_val okg) hs hs' hb)
          rw [hv] at K1 ⊢
          rw [hv2] at K2 ⊢
          generalize supF f.fr = S at *
          generalize f.fr.val = V at *
          generalize supF g.fr = S2 at *
          generalize g.fr.val = V2 at *
          generalize f.nn = na at *
          generalize f.top = ta at *
          generalize g.nn = nb at *
          generalize g.top = tb at *
          clear okf okg hv hv2 hf hg hvd hvd2 hvv h7 htf htg hvf hvg hSf hSg
          have e7 : decide ((7 : Int) < (v : Int)) = false := by simp; omega
          go_enter Try.func14, Try.ntmps14
          go_wp2_with fail
          refine (awake13_any _).mono ?_
          rintro e w1 ⟨rfl, hb1⟩
          have hb1z := hb1.size
          simp only [World.size_alloc] at hb1z
          have x1_0 : w1.cell? ⟨w.heap.size, 0, none⟩ = some (.int .i64 (v : Int)) := (below_at hb1 (w.heap.size) 0 (by first | (simp; done) | (simp; omega))).trans (by simp [go_sem])
          have x1_1 : w1.cell? ⟨w.heap.size, 1, none⟩ = some (.slice A na ca) := (below_at hb1 (w.heap.size) 1 (by first | (simp; done) | (simp; omega))).trans (by simp [go_sem])
          have x1_2 : w1.cell? ⟨w.heap.size, 2, none⟩ = some (.int .i64 ta) := (below_at hb1 (w.heap.size) 2 (by first | (simp; done) | (simp; omega))).trans (by simp [go_sem])
          have x1_3 : w1.cell? ⟨w.heap.size + 1, 0, none⟩ = some (.int .i64 (v : Int)) := (below_at hb1 (w.heap.size + 1) 0 (by first | (simp; done) | (simp; omega))).trans (by simp [go_sem])
          have x1_4 : w1.cell? ⟨w.heap.size + 1, 1, none⟩ = some (.slice B nb cb) := (below_at hb1 (w.heap.size + 1) 1 (by first | (simp; done) | (simp; omega))).trans (by simp [go_sem])
          have x1_5 : w1.cell? ⟨w.heap.size + 1, 2, none⟩ = some (.int .i64 tb) := (below_at hb1 (w.heap.size + 1) 2 (by first | (simp; done) | (simp; omega))).trans (by simp [go_sem])
          have hbA1 : Below w.heap.size w w1 := (by have z0 := Below.size hb1; (try simp only [World.size_alloc, World.size_setCell, World.size_drew, size_drewN'] at z0 ⊢; skip); repeat' (first | (with_reducible exact Below.refl _ _) | (with_reducible assumption) | (with_reducible refine Below.alloc ?_ ?_ _) | (with_reducible refine Below.drew ?_) | (with_reducible refine below_drewN ?_ _) | (with_reducible refine Below.setCell ?_ ?_ _) | (with_reducible refine Below.trans ?_ (Below.mono (by with_reducible assumption) ?_)) | omega | (simp only [World.size_alloc, World.size_setCell, World.size_drew, size_drewN']; omega) | go_size))
          clear hb1
          go_wp2_with fail
          refine (K1.out _ hbA1).mono ?_
          rintro e w2 ⟨rfl, hb2⟩
          have hb2z := hb2.size
          have x2_0 := (below_at hb2 (w.heap.size) 0 (by omega)).trans x1_0
          have x2_1 := (below_at hb2 (w.heap.size) 1 (by omega)).trans x1_1
          have x2_2 := (below_at hb2 (w.heap.size) 2 (by omega)).trans x1_2
          have x2_3 := (below_at hb2 (w.heap.size + 1) 0 (by omega)).trans x1_3
          have x2_4 := (below_at hb2 (w.heap.size + 1) 1 (by omega)).trans x1_4
          have x2_5 := (below_at hb2 (w.heap.size + 1) 2 (by omega)).trans x1_5
          have hbA2 : Below w.heap.size w w2 := (by have z0 := Below.size hbA1; have z1 := Below.size hb2; (try simp only [World.size_alloc, World.size_setCell, World.size_drew, size_drewN'] at z0 z1 ⊢; skip); repeat' (first | (with_reducible exact Below.refl _ _) | (with_reducible assumption) | (with_reducible refine Below.alloc ?_ ?_ _) | (with_reducible refine Below.drew ?_) | (with_reducible refine below_drewN ?_ _) | (with_reducible refine Below.setCell ?_ ?_ _) | (with_reducible refine Below.trans ?_ (Below.mono (by with_reducible assumption) ?_)) | omega | (simp only [World.size_alloc, World.size_setCell, World.size_drew, size_drewN']; omega) | go_size))
          clear x1_0 x1_1 x1_2 x1_3 x1_4 x1_5 hb2 hbA1
          go_wp2_with fail
          refine (K2.out _ hbA2).mono ?_
          rintro e w3 ⟨rfl, hb3⟩
          have hb3z := hb3.size
          have x3_0 := (below_at hb3 (w.heap.size) 0 (by omega)).trans x2_0
          have x3_1 := (below_at hb3 (w.heap.size) 1 (by omega)).trans x2_1
          have x3_2 := (below_at hb3 (w.heap.size) 2 (by omega)).trans x2_2
          have x3_3 := (below_at hb3 (w.heap.size + 1) 0 (by omega)).trans x2_3
          have x3_4 := (below_at hb3 (w.heap.size + 1) 1 (by omega)).trans x2_4
          have x3_5 := (below_at hb3 (w.heap.size + 1) 2 (by omega)).trans x2_5
          have hbA3 : Below w.heap.size w w3 := (by have z0 := Below.size hbA2; have z1 := Below.size hb3; (try simp only [World.size_alloc, World.size_setCell, World.size_drew, size_drewN'] at z0 z1 ⊢; skip); repeat' (first | (with_reducible exact Below.refl _ _) | (with_reducible assumption) | (with_reducible refine Below.alloc ?_ ?_ _) | (with_reducible refine Below.drew ?_) | (with_reducible refine below_drewN ?_ _) | (with_reducible refine Below.setCell ?_ ?_ _) | (with_reducible refine Below.trans ?_ (Below.mono (by with_reducible assumption) ?_)) | omega | (simp only [World.size_alloc, World.size_setCell, World.size_drew, size_drewN']; omega) | go_size))
          clear x2_0 x2_1 x2_2 x2_3 x2_4 x2_5 hb3 hbA2
          go_wp2_with fail
          refine (K3.out _ hbA3).mono ?_
          rintro e w4 ⟨⟨s1, hs1, hl1, A1, c1, rfl, own1⟩, hb4⟩
          have hb4z := hb4.size
          have x4_0 := (below_at hb4 (w.heap.size) 0 (by omega)).trans x3_0
          have x4_1 := (below_at hb4 (w.heap.size) 1 (by omega)).trans x3_1
          have x4_2 := (below_at hb4 (w.heap.size) 2 (by omega)).trans x3_2
          have x4_3 := (below_at hb4 (w.heap.size + 1) 0 (by omega)).trans x3_3
          have x4_4 := (below_at hb4 (w.heap.size + 1) 1 (by omega)).trans x3_4
          have x4_5 := (below_at hb4 (w.heap.size + 1) 2 (by omega)).trans x3_5
          have hbA4 : Below w.heap.size w w4 := (by have z0 := Below.size hbA3; have z1 := Below.size hb4; (try simp only [World.size_alloc, World.size_setCell, World.size_drew, size_drewN'] at z0 z1 ⊢; skip); repeat' (first | (with_reducible exact Below.refl _ _) | (with_reducible assumption) | (with_reducible refine Below.alloc ?_ ?_ _) | (with_reducible refine Below.drew ?_) | (with_reducible refine below_drewN ?_ _) | (with_reducible refine Below.setCell ?_ ?_ _) | (with_reducible refine Below.trans ?_ (Below.mono (by with_reducible assumption) ?_)) | omega | (simp only [World.size_alloc, World.size_setCell, World.size_drew, size_drewN']; omega) | go_size))
          clear x3_0 x3_1 x3_2 x3_3 x3_4 x3_5 hb4 hbA3
          go_wp2_with fail
          refine (K4.out _ hbA4).mono ?_
          rintro e w5 ⟨⟨s2, hs2, hl2, A2, c2, rfl, own2⟩, hb5⟩
          have hb5z := hb5.size
          have x5_0 := (below_at hb5 (w.heap.size) 0 (by omega)).trans x4_0
          have x5_1 := (below_at hb5 (w.heap.size) 1 (by omega)).trans x4_1
          have x5_2 := (below_at hb5 (w.heap.size) 2 (by omega)).trans x4_2
          have x5_3 := (below_at hb5 (w.heap.size + 1) 0 (by omega)).trans x4_3
          have x5_4 := (below_at hb5 (w.heap.size + 1) 1 (by omega)).trans x4_4
          have x5_5 := (below_at hb5 (w.heap.size + 1) 2 (by omega)).trans x4_5
          have oa5 := own1.below hb5
          have hbA5 : Below w.heap.size w w5 := (by have z0 := Below.size hbA4; have z1 := Below.size hb5; (try simp only [World.size_alloc, World.size_setCell, World.size_drew, size_drewN'] at z0 z1 ⊢; skip); repeat' (first | (with_reducible exact Below.refl _ _) | (with_reducible assumption) | (with_reducible refine Below.alloc ?_ ?_ _) | (with_reducible refine Below.drew ?_) | (with_reducible refine below_drewN ?_ _) | (with_reducible refine Below.setCell ?_ ?_ _) | (with_reducible refine Below.trans ?_ (Below.mono (by with_reducible assumption) ?_)) | omega | (simp only [World.size_alloc, World.size_setCell, World.size_drew, size_drewN']; omega) | go_size))
          clear x4_0 x4_1 x4_2 x4_3 x4_4 x4_5 hb5 hbA4
          go_wp2_with fail
          refine (K5.out _ hbA5).mono ?_
          rintro e w6 ⟨⟨bq, iq, rfl, hbq⟩, hb6⟩
          have hb6z := hb6.size
          have oa6 := oa5.below hb6
          have ob6 := own2.below hb6
          have hbA6 : Below w.heap.size w w6 := (by have z0 := Below.size hbA5; have z1 := Below.size hb6; (try simp only [World.size_alloc, World.size_setCell, World.size_drew, size_drewN'] at z0 z1 ⊢; skip); repeat' (first | (with_reducible exact Below.refl _ _) | (with_reducible assumption) | (with_reducible refine Below.alloc ?_ ?_ _) | (with_reducible refine Below.drew ?_) | (with_reducible refine below_drewN ?_ _) | (with_reducible refine Below.setCell ?_ ?_ _) | (with_reducible refine Below.trans ?_ (Below.mono (by with_reducible assumption) ?_)) | omega | (simp only [World.size_alloc, World.size_setCell, World.size_drew, size_drewN']; omega) | go_size))
          clear hb6 hbA5
          have HD := Lib.hid (HV.out s1 s2 bq hs1 hs2 hbq)
          have KC := Lib.hid (cubesN (a := c1) (b := c2) (w := w6) (l := s1) (m := s2) (by omega) (by omega) oa6.rd ob6.rd)
          rw [← HD.out] at KC
          have eqb : (bq == bq) = true := by simp
          clear HV HD hs1 hs2 hbq K1 K2 K3 K4 K5
          go_wp2_with fail
          refine KC.out.mono ?_
          rintro e w7 ⟨rfl, hb7⟩
          go_wp2_with fail
          go_returns
          exact ⟨by simp, (by have z0 := Below.size hbA6; have z1 := Below.size hb7; (try simp only [World.size_alloc, World.size_setCell, World.size_drew, size_drewN'] at z0 z1 ⊢; skip); repeat' (first | (with_reducible exact Below.refl _ _) | (with_reducible assumption) | (with_reducible refine Below.alloc ?_ ?_ _) | (with_reducible refine Below.drew ?_) | (with_reducible refine below_drewN ?_ _) | (with_reducible refine Below.setCell ?_ ?_ _) | (with_reducible refine Below.trans ?_ (Below.mono (by with_reducible assumption) ?_)) | omega | (simp only [World.size_alloc, World.size_setCell, World.size_drew, size_drewN']; omega) | go_size))⟩
        · have okf := (codeP_ok hvd.1).1
          obtain ⟨v, hv⟩ := okf.nat
          have hv2 : g.vars = v := by omega
          have e7 : decide ((7 : Int) < (v : Int)) = true := by simp; omega
          rw [hv] at K1 ⊢
          rw [hv2] at K2 ⊢
          generalize f.nn = na at *
          generalize f.top = ta at *
          generalize g.nn = nb at *
          generalize g.top = tb at *
          clear okf hv hv2 hf hg hvd hvd2 hvv h7 htf htg hvf hvg
          go_enter Try.func14, Try.ntmps14
          go_wp2_with fail
          refine (awake13_any _).mono ?_
          rintro e w1 ⟨rfl, hb1⟩
          have hb1z := hb1.size
          simp only [World.size_alloc] at hb1z
          have x1_0 : w1.cell? ⟨w.heap.size, 0, none⟩ = some (.int .i64 (v : Int)) := (below_at hb1 (w.heap.size) 0 (by first | (simp; done) | (simp; omega))).trans (by simp [go_sem])
          have x1_1 : w1.cell? ⟨w.heap.size, 1, none⟩ = some (.slice A na ca) := (below_at hb1 (w.heap.size) 1 (by first | (simp; done) | (simp; omega))).trans (by simp [go_sem])
          have x1_2 : w1.cell? ⟨w.heap.size, 2, none⟩ = some (.int .i64 ta) := (below_at hb1 (w.heap.size) 2 (by first | (simp; done) | (simp; omega))).trans (by simp [go_sem])
          have x1_3 : w1.cell? ⟨w.heap.size + 1, 0, none⟩ = some (.int .i64 (v : Int)) := (below_at hb1 (w.heap.size + 1) 0 (by first | (simp; done) | (simp; omega))).trans (by simp [go_sem])
          have x1_4 : w1.cell? ⟨w.heap.size + 1, 1, none⟩ = some (.slice B nb cb) := (below_at hb1 (w.heap.size + 1) 1 (by first | (simp; done) | (simp; omega))).trans (by simp [go_sem])
          have x1_5 : w1.cell? ⟨w.heap.size + 1, 2, none⟩ = some (.int .i64 tb) := (below_at hb1 (w.heap.size + 1) 2 (by first | (simp; done) | (simp; omega))).trans (by simp [go_sem])
          have hbA1 : Below w.heap.size w w1 := (by have z0 := Below.size hb1; (try simp only [World.size_alloc, World.size_setCell, World.size_drew, size_drewN'] at z0 ⊢; skip); repeat' (first | (with_reducible exact Below.refl _ _) | (with_reducible assumption) | (with_reducible refine Below.alloc ?_ ?_ _) | (with_reducible refine Below.drew ?_) | (with_reducible refine below_drewN ?_ _) | (with_reducible refine Below.setCell ?_ ?_ _) | (with_reducible refine Below.trans ?_ (Below.mono (by with_reducible assumption) ?_)) | omega | (simp only [World.size_alloc, World.size_setCell, World.size_drew, size_drewN']; omega) | go_size))
          clear hb1
          go_wp2_with fail
          refine (K1.out _ hbA1).mono ?_
          rintro e w2 ⟨rfl, hb2⟩
          have hb2z := hb2.size
          have x2_0 := (below_at hb2 (w.heap.size) 0 (by omega)).trans x1_0
          have x2_1 := (below_at hb2 (w.heap.size) 1 (by omega)).trans x1_1
          have x2_2 := (below_at hb2 (w.heap.size) 2 (by omega)).trans x1_2
          have x2_3 := (below_at hb2 (w.heap.size + 1) 0 (by omega)).trans x1_3
          have x2_4 := (below_at hb2 (w.heap.size + 1) 1 (by omega)).trans x1_4
          have x2_5 := (below_at hb2 (w.heap.size + 1) 2 (by omega)).trans x1_5
          have hbA2 : Below w.heap.size w w2 := (by have z0 := Below.size hbA1; have z1 := Below.size hb2; (try simp only [World.size_alloc, World.size_setCell, World.size_drew, size_drewN'] at z0 z1 ⊢; skip); repeat' (first | (with_reducible exact Below.refl _ _) | (with_reducible assumption) | (with_reducible refine Below.alloc ?_ ?_ _) | (with_reducible refine Below.drew ?_) | (with_reducible refine below_drewN ?_ _) | (with_reducible refine Below.setCell ?_ ?_ _) | (with_reducible refine Below.trans ?_ (Below.mono (by with_reducible assumption) ?_)) | omega | (simp only [World.size_alloc, World.size_setCell, World.size_drew, size_drewN']; omega) | go_size))
          clear x1_0 x1_1 x1_2 x1_3 x1_4 x1_5 hb2 hbA1
          go_wp2_with fail
          refine (K2.out _ hbA2).mono ?_
          rintro e w3 ⟨rfl, hb3⟩
          have hb3z := hb3.size
          have x3_0 := (below_at hb3 (w.heap.size) 0 (by omega)).trans x2_0
          have x3_1 := (below_at hb3 (w.heap.size) 1 (by omega)).trans x2_1
          have x3_2 := (below_at hb3 (w.heap.size) 2 (by omega)).trans x2_2
          have x3_3 := (below_at hb3 (w.heap.size + 1) 0 (by omega)).trans x2_3
          have x3_4 := (below_at hb3 (w.heap.size + 1) 1 (by omega)).trans x2_4
          have x3_5 := (below_at hb3 (w.heap.size + 1) 2 (by omega)).trans x2_5
          have hbA3 : Below w.heap.size w w3 := (by have z0 := Below.size hbA2; have z1 := Below.size hb3; (try simp only [World.size_alloc, World.size_setCell, World.size_drew, size_drewN'] at z0 z1 ⊢; skip); repeat' (first | (with_reducible exact Below.refl _ _) | (with_reducible assumption) | (with_reducible refine Below.alloc ?_ ?_ _) | (with_reducible refine Below.drew ?_) | (with_reducible refine below_drewN ?_ _) | (with_reducible refine Below.setCell ?_ ?_ _) | (with_reducible refine Below.trans ?_ (Below.mono (by with_reducible assumption) ?_)) | omega | (simp only [World.size_alloc, World.size_setCell, World.size_drew, size_drewN']; omega) | go_size))
          clear x2_0 x2_1 x2_2 x2_3 x2_4 x2_5 hb3 hbA2
          go_wp2_with fail
          refine (awake13_any _).mono ?_
          rintro e w4 ⟨rfl, hb4⟩
          have hb4z := hb4.size
          have hbA4 : Below w.heap.size w w4 := (by have z0 := Below.size hbA3; have z1 := Below.size hb4; (try simp only [World.size_alloc, World.size_setCell, World.size_drew, size_drewN'] at z0 z1 ⊢; skip); repeat' (first | (with_reducible exact Below.refl _ _) | (with_reducible assumption) | (with_reducible refine Below.alloc ?_ ?_ _) | (with_reducible refine Below.drew ?_) | (with_reducible refine below_drewN ?_ _) | (with_reducible refine Below.setCell ?_ ?_ _) | (with_reducible refine Below.trans ?_ (Below.mono (by with_reducible assumption) ?_)) | omega | (simp only [World.size_alloc, World.size_setCell, World.size_drew, size_drewN']; omega) | go_size))
          clear hb4 hbA3
          go_wp2_with fail
          go_returns
          exact ⟨rfl, hbA4⟩
      · have evv : (f.vars != g.vars) = true := by simpa using hvv
        generalize f.vars = v1 at *
        generalize g.vars = v2 at *
        generalize f.nn = na at *
        generalize f.top = ta at *
        generalize g.nn = nb at *
        generalize g.top = tb at *
        clear hf hg hvd hvd2 hvv htf htg hvf hvg
        go_enter Try.func14, Try.ntmps14
        go_wp2_with fail
        refine (awake13_any _).mono ?_
        rintro e w1 ⟨rfl, hb1⟩
        have hb1z := hb1.size
        simp only [World.size_alloc] at hb1z
        have x1_0 : w1.cell? ⟨w.heap.size, 0, none⟩ = some (.int .i64 v1) := (below_at hb1 (w.heap.size) 0 (by first | (simp; done) | (simp; omega))).trans (by simp [go_sem])
        have x1_1 : w1.cell? ⟨w.heap.size, 1, none⟩ = some (.slice A na ca) := (below_at hb1 (w.heap.size) 1 (by first | (simp; done) | (simp; omega))).trans (by simp [go_sem])
        have x1_2 : w1.cell? ⟨w.heap.size, 2, none⟩ = some (.int .i64 ta) := (below_at hb1 (w.heap.size) 2 (by first | (simp; done) | (simp; omega))).trans (by simp [go_sem])
        have x1_3 : w1.cell? ⟨w.heap.size + 1, 0, none⟩ = some (.int .i64 v2) := (below_at hb1 (w.heap.size + 1) 0 (by first | (simp; done) | (simp; omega))).trans (by simp [go_sem])
        have x1_4 : w1.cell? ⟨w.heap.size + 1, 1, none⟩ = some (.slice B nb cb) := (below_at hb1 (w.heap.size + 1) 1 (by first | (simp; done) | (simp; omega))).trans (by simp [go_sem])
        have x1_5 : w1.cell? ⟨w.heap.size + 1, 2, none⟩ = some (.int .i64 tb) := (below_at hb1 (w.heap.size + 1) 2 (by first | (simp; done) | (simp; omega))).trans (by simp [go_sem])
        have hbA1 : Below w.heap.size w w1 := (by have z0 := Below.size hb1; (try simp only [World.size_alloc, World.size_setCell, World.size_drew, size_drewN'] at z0 ⊢; skip); repeat' (first | (with_reducible exact Below.refl _ _) | (with_reducible assumption) | (with_reducible refine Below.alloc ?_ ?_ _) | (with_reducible refine Below.drew ?_) | (with_reducible refine below_drewN ?_ _) | (with_reducible refine Below.setCell ?_ ?_ _) | (with_reducible refine Below.trans ?_ (Below.mono (by with_reducible assumption) ?_)) | omega | (simp only [World.size_alloc, World.size_setCell, World.size_drew, size_drewN']; omega) | go_size))
        clear hb1
        go_wp2_with fail
        refine (K1.out _ hbA1).mono ?_
        rintro e w2 ⟨rfl, hb2⟩
        have hb2z := hb2.size
        have x2_0 := (below_at hb2 (w.heap.size) 0 (by omega)).trans x1_0
        have x2_1 := (below_at hb2 (w.heap.size) 1 (by omega)).trans x1_1
        have x2_2 := (below_at hb2 (w.heap.size) 2 (by omega)).trans x1_2
        have x2_3 := (below_at hb2 (w.heap.size + 1) 0 (by omega)).trans x1_3
        have x2_4 := (below_at hb2 (w.heap.size + 1) 1 (by omega)).trans x1_4
        have x2_5 := (below_at hb2 (w.heap.size + 1) 2 (by omega)).trans x1_5
        have hbA2 : Below w.heap.size w w2 := (by have z0 := Below.size hbA1; have z1 := Below.size hb2; (try simp only [World.size_alloc, World.size_setCell, World.size_drew, size_drewN'] at z0 z1 ⊢; skip); repeat' (first | (with_reducible exact Below.refl _ _) | (with_reducible assumption) | (with_reducible refine Below.alloc ?_ ?_ _) | (with_reducible refine Below.drew ?_) | (with_reducible refine below_drewN ?_ _) | (with_reducible refine Below.setCell ?_ ?_ _) | (with_reducible refine Below.trans ?_ (Below.mono (by with_reducible assumption) ?_)) | omega | (simp only [World.size_alloc, World.size_setCell, World.size_drew, size_drewN']; omega) | go_size))
        clear x1_0 x1_1 x1_2 x1_3 x1_4 x1_5 hb2 hbA1
        go_wp2_with fail
        refine (K2.out _ hbA2).mono ?_
        rintro e w3 ⟨rfl, hb3⟩
        have hb3z := hb3.size
        have x3_0 := (below_at hb3 (w.heap.size) 0 (by omega)).trans x2_0
        have x3_1 := (below_at hb3 (w.heap.size) 1 (by omega)).trans x2_1
        have x3_2 := (below_at hb3 (w.heap.size) 2 (by omega)).trans x2_2
        have x3_3 := (below_at hb3 (w.heap.size + 1) 0 (by omega)).trans x2_3
        have x3_4 := (below_at hb3 (w.heap.size + 1) 1 (by omega)).trans x2_4
        have x3_5 := (below_at hb3 (w.heap.size + 1) 2 (by omega)).trans x2_5
        have hbA3 : Below w.heap.size w w3 := (by have z0 := Below.size hbA2; have z1 := Below.size hb3; (try simp only [World.size_alloc, World.size_setCell, World.size_drew, size_drewN'] at z0 z1 ⊢; skip); repeat' (first | (with_reducible exact Below.refl _ _) | (with_reducible assumption) | (with_reducible refine Below.alloc ?_ ?_ _) | (with_reducible refine Below.drew ?_) | (with_reducible refine below_drewN ?_ _) | (with_reducible refine Below.setCell ?_ ?_ _) | (with_reducible refine Below.trans ?_ (Below.mono (by with_reducible assumption) ?_)) | omega | (simp only [World.size_alloc, World.size_setCell, World.size_drew, size_drewN']; omega) | go_size))
        clear x2_0 x2_1 x2_2 x2_3 x2_4 x2_5 hb3 hbA2
        go_wp2_with fail
        refine (awake13_any _).mono ?_
        rintro e w4 ⟨rfl, hb4⟩
        have hb4z := hb4.size
        have hbA4 : Below w.heap.size w w4 := (by have z0 := Below.size hbA3; have z1 := Below.size hb4; (try simp only [World.size_alloc, World.size_setCell, World.size_drew, size_drewN'] at z0 z1 ⊢; skip); repeat' (first | (with_reducible exact Below.refl _ _) | (with_reducible assumption) | (with_reducible refine Below.alloc ?_ ?_ _) | (with_reducible refine Below.drew ?_) | (with_reducible refine below_drewN ?_ _) | (with_reducible refine Below.setCell ?_ ?_ _) | (with_reducible refine Below.trans ?_ (Below.mono (by with_reducible assumption) ?_)) | omega | (simp only [World.size_alloc, World.size_setCell, World.size_drew, size_drewN']; omega) | go_size))
        clear hb4 hbA3
        go_wp2_with fail
        go_returns
        exact ⟨rfl, hbA4⟩
    · rw [decide_eq_false hvd2] at K2
      generalize f.vars = v1 at *
      generalize g.vars = v2 at *
      generalize f.nn = na at *
      generalize f.top = ta at *
      generalize g.nn = nb at *
      generalize g.top = tb at *
      clear hf hg hvd hvd2 htf htg hvf hvg
      go_enter Try.func14, Try.ntmps14
      go_wp2_with fail
      refine (awake13_any _).mono ?_
      rintro e w1 ⟨rfl, hb1⟩
      have hb1z := hb1.size
      simp only [World.size_alloc] at hb1z
      have x1_0 : w1.cell? ⟨w.heap.size, 0, none⟩ = some (.int .i64 v1) := (below_at hb1 (w.heap.size) 0 (by first | (simp; done) | (simp; omega))).trans (by simp [go_sem])
      have x1_1 : w1.cell? ⟨w.heap.size, 1, none⟩ = some (.slice A na ca) := (below_at hb1 (w.heap.size) 1 (by first | (simp; done) | (simp; omega))).trans (by simp [go_sem])
      have x1_2 : w1.cell? ⟨w.heap.size, 2, none⟩ = some (.int .i64 ta) := (below_at hb1 (w.heap.size) 2 (by first | (simp; done) | (simp; omega))).trans (by simp [go_sem])
      have x1_3 : w1.cell? ⟨w.heap.size + 1, 0, none⟩ = some (.int .i64 v2) := (below_at hb1 (w.heap.size + 1) 0 (by first | (simp; done) | (simp; omega))).trans (by simp [go_sem])
      have x1_4 : w1.cell? ⟨w.heap.size + 1, 1, none⟩ = some (.slice B nb cb) := (below_at hb1 (w.heap.size + 1) 1 (by first | (simp; done) | (simp; omega))).trans (by simp [go_sem])
      have x1_5 : w1.cell? ⟨w.heap.size + 1, 2, none⟩ = some (.int .i64 tb) := (below_at hb1 (w.heap.size + 1) 2 (by first | (simp; done) | (simp; omega))).trans (by simp [go_sem])
      have hbA1 : Below w.heap.size w w1 := (by have z0 := Below.size hb1; (try simp only [World.size_alloc, World.size_setCell, World.size_drew, size_drewN'] at z0 ⊢; skip); repeat' (first | (with_reducible exact Below.refl _ _) | (with_reducible assumption) | (with_reducible refine Below.alloc ?_ ?_ _) | (with_reducible refine Below.drew ?_) | (with_reducible refine below_drewN ?_ _) | (with_reducible refine Below.setCell ?_ ?_ _) | (with_reducible refine Below.trans ?_ (Below.mono (by with_reducible assumption) ?_)) | omega | (simp only [World.size_alloc, World.size_setCell, World.size_drew, size_drewN']; omega) | go_size))
      clear hb1
      go_wp2_with fail
      refine (K1.out _ hbA1).mono ?_
      rintro e w2 ⟨rfl, hb2⟩
      have hb2z := hb2.size
      have x2_0 := (below_at hb2 (w.heap.size) 0 (by omega)).trans x1_0
      have x2_1 := (below_at hb2 (w.heap.size) 1 (by omega)).trans x1_1
      have x2_2 := (below_at hb2 (w.heap.size) 2 (by omega)).trans x1_2
      have x2_3 := (below_at hb2 (w.heap.size + 1) 0 (by omega)).trans x1_3
      have x2_4 := (below_at hb2 (w.heap.size + 1) 1 (by omega)).trans x1_4
      have x2_5 := (below_at hb2 (w.heap.size + 1) 2 (by omega)).trans x1_5
      have hbA2 : Below w.heap.size w w2 := (by have z0 := Below.size hbA1; have z1 := Below.size hb2; (try simp only [World.size_alloc, World.size_setCell, World.size_drew, size_drewN'] at z0 z1 ⊢; skip); repeat' (first | (with_reducible exact Below.refl _ _) | (with_reducible assumption) | (with_reducible refine Below.alloc ?_ ?_ _) | (with_reducible refine Below.drew ?_) | (with_reducible refine below_drewN ?_ _) | (with_reducible refine Below.setCell ?_ ?_ _) | (with_reducible refine Below.trans ?_ (Below.mono (by with_reducible assumption) ?_)) | omega | (simp only [World.size_alloc, World.size_setCell, World.size_drew, size_drewN']; omega) | go_size))
      clear x1_0 x1_1 x1_2 x1_3 x1_4 x1_5 hb2 hbA1
      go_wp2_with fail
      refine (K2.out _ hbA2).mono ?_
      rintro e w3 ⟨rfl, hb3⟩
      have hb3z := hb3.size
      have x3_0 := (below_at hb3 (w.heap.size) 0 (by omega)).trans x2_0
      have x3_1 := (below_at hb3 (w.heap.size) 1 (by omega)).trans x2_1
      have x3_2 := (below_at hb3 (w.heap.size) 2 (by omega)).trans x2_2
      have x3_3 := (below_at hb3 (w.heap.size + 1) 0 (by omega)).trans x2_3
      have x3_4 := (below_at hb3 (w.heap.size + 1) 1 (by omega)).trans x2_4
      have x3_5 := (below_at hb3 (w.heap.size + 1) 2 (by omega)).trans x2_5
      have hbA3 : Below w.heap.size w w3 := (by have z0 := Below.size hbA2; have z1 := Below.size hb3; (try simp only [World.size_alloc, World.size_setCell, World.size_drew, size_drewN'] at z0 z1 ⊢; skip); repeat' (first | (with_reducible exact Below.refl _ _) | (with_reducible assumption) | (with_reducible refine Below.alloc ?_ ?_ _) | (with_reducible refine Below.drew ?_) | (with_reducible refine below_drewN ?_ _) | (with_reducible refine Below.setCell ?_ ?_ _) | (with_reducible refine Below.trans ?_ (Below.mono (by with_reducible assumption) ?_)) | omega | (simp only [World.size_alloc, World.size_setCell, World.size_drew, size_drewN']; omega) | go_size))
      clear x2_0 x2_1 x2_2 x2_3 x2_4 x2_5 hb3 hbA2
      go_wp2_with fail
      refine (awake13_any _).mono ?_
      rintro e w4 ⟨rfl, hb4⟩
      have hb4z := hb4.size
      have hbA4 : Below w.heap.size w w4 := (by have z0 := Below.size hbA3; have z1 := Below.size hb4; (try simp only [World.size_alloc, World.size_setCell, World.size_drew, size_drewN'] at z0 z1 ⊢; skip); repeat' (first | (with_reducible exact Below.refl _ _) | (with_reducible assumption) | (with_reducible refine Below.alloc ?_ ?_ _) | (with_reducible refine Below.drew ?_) | (with_reducible refine below_drewN ?_ _) | (with_reducible refine Below.setCell ?_ ?_ _) | (with_reducible refine Below.trans ?_ (Below.mono (by with_reducible assumption) ?_)) | omega | (simp only [World.size_alloc, World.size_setCell, World.size_drew, size_drewN']; omega) | go_size))
      clear hb4 hbA3
      go_wp2_with fail
      go_returns
      exact ⟨rfl, hbA4⟩
  · rw [decide_eq_false hvd] at K1
    generalize f.vars = v1 at *
    generalize g.vars = v2 at *
    generalize f.nn = na at *
    generalize f.top = ta at *
    generalize g.nn = nb at *
    generalize g.top = tb at *
    clear hf hg hvd htf htg hvf hvg
    go_enter Try.func14, Try.ntmps14
    go_wp2_with fail
    refine (awake13_any _).mono ?_
    rintro e w1 ⟨rfl, hb1⟩
    have hb1z := hb1.size
    simp only [World.size_alloc] at hb1z
    have x1_0 : w1.cell? ⟨w.heap.size, 0, none⟩ = some (.int .i64 v1) := (below_at hb1 (w.heap.size) 0 (by first | (simp; done) | (simp; omega))).trans (by simp [go_sem])
    have x1_1 : w1.cell? ⟨w.heap.size, 1, none⟩ = some (.slice A na ca) := (below_at hb1 (w.heap.size) 1 (by first | (simp; done) | (simp; omega))).trans (by simp [go_sem])
    have x1_2 : w1.cell? ⟨w.heap.size, 2, none⟩ = some (.int .i64 ta) := (below_at hb1 (w.heap.size) 2 (by first | (simp; done) | (simp; omega))).trans (by simp [go_sem])
    have x1_3 : w1.cell? ⟨w.heap.size + 1, 0, none⟩ = some (.int .i64 v2) := (below_at hb1 (w.heap.size + 1) 0 (by first | (simp; done) | (simp; omega))).trans (by simp [go_sem])
    have x1_4 : w1.cell? ⟨w.heap.size + 1, 1, none⟩ = some (.slice B nb cb) := (below_at hb1 (w.heap.size + 1) 1 (by first | (simp; done) | (simp; omega))).trans (by simp [go_sem])
    have x1_5 : w1.cell? ⟨w.heap.size + 1, 2, none⟩ = some (.int .i64 tb) := (below_at hb1 (w.heap.size + 1) 2 (by first | (simp; done) | (simp; omega))).trans (by simp [go_sem])
    have hbA1 : Below w.heap.size w w1 := (by have z0 := Below.size hb1; (try simp only [World.size_alloc, World.size_setCell, World.size_drew, size_drewN'] at z0 ⊢; skip); repeat' (first | (with_reducible exact Below.refl _ _) | (with_reducible assumption) | (with_reducible refine Below.alloc ?_ ?_ _) | (with_reducible refine Below.drew ?_) | (with_reducible refine below_drewN ?_ _) | (with_reducible refine Below.setCell ?_ ?_ _) | (with_reducible refine Below.trans ?_ (Below.mono (by with_reducible assumption) ?_)) | omega | (simp only [World.size_alloc, World.size_setCell, World.size_drew, size_drewN']; omega) | go_size))
    clear hb1
    go_wp2_with fail
    refine (K1.out _ hbA1).mono ?_
    rintro e w2 ⟨rfl, hb2⟩
    have hb2z := hb2.size
    have x2_0 := (below_at hb2 (w.heap.size) 0 (by omega)).trans x1_0
    have x2_1 := (below_at hb2 (w.heap.size) 1 (by omega)).trans x1_1
    have x2_2 := (below_at hb2 (w.heap.size) 2 (by omega)).trans x1_2
    have x2_3 := (below_at hb2 (w.heap.size + 1) 0 (by omega)).trans x1_3
    have x2_4 := (below_at hb2 (w.heap.size + 1) 1 (by omega)).trans x1_4
    have x2_5 := (below_at hb2 (w.heap.size + 1) 2 (by omega)).trans x1_5
    have hbA2 : Below w.heap.size w w2 := (by have z0 := Below.size hbA1; have z1 := Below.size hb2; (try simp only [World.size_alloc, World.size_setCell, World.size_drew, size_drewN'] at z0 z1 ⊢; skip); repeat' (first | (with_reducible exact Below.refl _ _) | (with_reducible assumption) | (with_reducible refine Below.alloc ?_ ?_ _) | (with_reducible refine Below.drew ?_) | (with_reducible refine below_drewN ?_ _) | (with_reducible refine Below.setCell ?_ ?_ _) | (with_reducible refine Below.trans ?_ (Below.mono (by with_reducible assumption) ?_)) | omega | (simp only [World.size_alloc, World.size_setCell, World.size_drew, size_drewN']; omega) | go_size))
    clear x1_0 x1_1 x1_2 x1_3 x1_4 x1_5 hb2 hbA1
    go_wp2_with fail
    refine (awake13_any _).mono ?_
    rintro e w3 ⟨rfl, hb3⟩
    have hb3z := hb3.size
    have hbA3 : Below w.heap.size w w3 := (by have z0 := Below.size hbA2; have z1 := Below.size hb3; (try simp only [World.size_alloc, World.size_setCell, World.size_drew, size_drewN'] at z0 z1 ⊢; skip); repeat' (first | (with_reducible exact Below.refl _ _) | (with_reducible assumption) | (with_reducible refine Below.alloc ?_ ?_ _) | (with_reducible refine Below.drew ?_) | (with_reducible refine below_drewN ?_ _) | (with_reducible refine Below.setCell ?_ ?_ _) | (with_reducible refine Below.trans ?_ (Below.mono (by with_reducible assumption) ?_)) | omega | (simp only [World.size_alloc, World.size_setCell, World.size_drew, size_drewN']; omega) | go_size))
    clear hb3 hbA2
    go_wp2_with fail
    go_returns
    exact ⟨rfl, hbA3⟩
end
end Go.Proofs.Ytedopalmfakeaaa
