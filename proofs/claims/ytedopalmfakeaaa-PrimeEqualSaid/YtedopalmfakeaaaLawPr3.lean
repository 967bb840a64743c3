/- Contracts of functions and lemmas, used by the proofs of the given statements. No condition beyond those that each lemma names. -/
import Derived.Test.YtedopalmfakeaaaJPrmN
import Derived.Test.YtedopalmfakeaaaPrX7
import Derived.Test.YtedopalmfakeaaaPrX8
namespace Go.Proofs.Ytedopalmfakeaaa
open Go.RowKit Go.Sort
set_option linter.unusedSimpArgs false
set_option linter.unusedVariables false
set_option maxRecDepth 20000
/-! ## law13: PrimeAll -/
attribute [local irreducible] pop popc
section
variable {w : World} {A : Option Addr} {c : Nat} {f : FrR}
theorem ess13_7 {v : Nat} (h : FrI w A f) (ok : FrOk f) (hv : f.vars = v) (h7 : popc (supF f.fr) ≤ 7) :
    Calls Try.prog 58 #[fv (v : Int) A f.nn c f.top] w fun e w' => (∃ s, PrmS (supF f.fr) f.fr.val s ∧ s.length ≤ 1024 ∧ ∃ A c, e = .returned (.tuple #[.slice A (essN s).length c, .nilIface]) ∧ OwC w' w.heap.size A c ((essN s).map zc)) ∧ Below w.heap.size w w' := by
  refine (Essential_ok h ok hv (by omega)).mono ?_
  rintro e w' ⟨⟨s, hs, ⟨h1, _⟩ | ⟨h1, h2⟩⟩, hb⟩
  · have := hs.few (supF_lt ok hv).2 h7
    omega
  · exact ⟨⟨s, hs, h1, h2⟩, hb⟩
theorem zc_inj {a b : List Cn} (h : a.map zc = b.map zc) : a = b := by
  refine List.map_inj_right (f := zc) (fun x y e => ?_) |>.1 h
  have e1 : (x.1 : Int) = (y.1 : Int) := congrArg Prod.fst e
  have e2 : (x.2 : Int) = (y.2 : Int) := congrArg Prod.snd e
  exact Prod.ext (by omega) (by omega)
theorem zc_dec (a b : List Cn) : decide (a.map zc = b.map zc) = decide (a = b) := by
  rw [decide_eq_decide]
  exact ⟨zc_inj, fun h => by rw [h]⟩
/-- two lists of cubes that are read -/
theorem cubesN {l m : List Cn} {A B : Option Addr} {a b : Nat} {w : World} (hl : l.length ≤ 1048576) (hm : m.length ≤ 1048576) (h1 : RdC w w.heap.size A (l.map zc)) (h2 : RdC w w.heap.size B (m.map zc)) :
    Calls Try.prog 61 #[.slice A l.length a, .slice B m.length b] w fun e w' => e = .returned (.bool (decide (l = m))) ∧ Below w.heap.size w w' := by
  have := cubes_at A B (l.map zc) (m.map zc) l.length m.length a b w (by simp) (by simp) (by omega) (by omega) h1 h2
  rwa [zc_dec] at this
theorem essN_len (l : List Cn) : (essN l).length ≤ l.length := by
  unfold essN
  rw [List.length_map]
  exact Nat.le_trans (List.length_filter_le _ _) (by simp)
set_option maxHeartbeats 8000000 in
theorem primeAll_law (h : FrI w A f) (ht : f.top ≤ 9223372036854775807) :
    Calls Try.prog 13 #[fv f.vars A f.nn c f.top] w fun e w' => e = .returned (.bool true) ∧ Below w.heap.size w w' := by
  have K0 := Lib.hid (fun W (hW : Below w.heap.size w W) => heavy_any (c := c) (h.below hW) ht)
  have K1 := Lib.hid (fun W (hW : Below w.heap.size w W) => rcheck13_any (c := c) (h.below hW) ht)
  by_cases hh : codeP f = 0 ∧ 7 < popc (supF f.fr)
  · rw [decide_eq_true hh] at K0
    clear h hh K1
    generalize f.vars = v at *
    generalize f.nn = nn at *
    generalize f.top = tp at *
    go_enter Try.func13, Try.ntmps13
    go_wp2_with fail
    refine (awake13_any _).mono ?_
    rintro e w1 ⟨rfl, hb1⟩
    have hb1z := hb1.size
    simp only [World.size_alloc] at hb1z
    have x1_0 : w1.cell? ⟨w.heap.size, 0, none⟩ = some (.int .i64 v) := (below_at hb1 (w.heap.size) 0 (by first | (simp; done) | (simp; omega))).trans (by simp [go_sem])
    have x1_1 : w1.cell? ⟨w.heap.size, 1, none⟩ = some (.slice A nn c) := (below_at hb1 (w.heap.size) 1 (by first | (simp; done) | (simp; omega))).trans (by simp [go_sem])
    have x1_2 : w1.cell? ⟨w.heap.size, 2, none⟩ = some (.int .i64 tp) := (below_at hb1 (w.heap.size) 2 (by first | (simp; done) | (simp; omega))).trans (by simp [go_sem])
    have hbA1 : Below w.heap.size w w1 := (by have z0 := Below.size hb1; (try simp only [World.size_alloc, World.size_setCell, World.size_drew, size_drewN'] at z0 ⊢; skip); repeat' (first | (with_reducible exact Below.refl _ _) | (with_reducible assumption) | (with_reducible refine Below.alloc ?_ ?_ _) | (with_reducible refine Below.drew ?_) | (with_reducible refine below_drewN ?_ _) | (with_reducible refine Below.setCell ?_ ?_ _) | (with_reducible refine Below.trans ?_ (Below.mono (by with_reducible assumption) ?_)) | omega | (simp only [World.size_alloc, World.size_setCell, World.size_drew, size_drewN']; omega) | go_size))
    clear hb1
    go_wp2_with fail
    refine (K0.out _ hbA1).mono ?_
    rintro e w2 ⟨rfl, hb2⟩
    have hb2z := hb2.size
    have x2_0 := (below_at hb2 (w.heap.size) 0 (by omega)).trans x1_0
    have x2_1 := (below_at hb2 (w.heap.size) 1 (by omega)).trans x1_1
    have x2_2 := (below_at hb2 (w.heap.size) 2 (by omega)).trans x1_2
    have hbA2 : Below w.heap.size w w2 := (by have z0 := Below.size hbA1; have z1 := Below.size hb2; (try simp only [World.size_alloc, World.size_setCell, World.size_drew, size_drewN'] at z0 z1 ⊢; skip); repeat' (first | (with_reducible exact Below.refl _ _) | (with_reducible assumption) | (with_reducible refine Below.alloc ?_ ?_ _) | (with_reducible refine Below.drew ?_) | (with_reducible refine below_drewN ?_ _) | (with_reducible refine Below.setCell ?_ ?_ _) | (with_reducible refine Below.trans ?_ (Below.mono (by with_reducible assumption) ?_)) | omega | (simp only [World.size_alloc, World.size_setCell, World.size_drew, size_drewN']; omega) | go_size))
    clear x1_0 x1_1 x1_2 hb2 hbA1
    go_wp2_with fail
    refine (awake13_any _).mono ?_
    rintro e w3 ⟨rfl, hb3⟩
    have hb3z := hb3.size
    have hbA3 : Below w.heap.size w w3 := (by have z0 := Below.size hbA2; have z1 := Below.size hb3; (try simp only [World.size_alloc, World.size_setCell, World.size_drew, size_drewN'] at z0 z1 ⊢; skip); repeat' (first | (with_reducible exact Below.refl _ _) | (with_reducible assumption) | (with_reducible refine Below.alloc ?_ ?_ _) | (with_reducible refine Below.drew ?_) | (with_reducible refine below_drewN ?_ _) | (with_reducible refine Below.setCell ?_ ?_ _) | (with_reducible refine Below.trans ?_ (Below.mono (by with_reducible assumption) ?_)) | omega | (simp only [World.size_alloc, World.size_setCell, World.size_drew, size_drewN']; omega) | go_size))
    clear hb3 hbA2
    go_wp2_with fail
    go_returns
    exact ⟨rfl, hbA3⟩
  · rw [decide_eq_false hh] at K0
    by_cases hc : codeP f = 0
    · have h7 : popc (supF f.fr) ≤ 7 := by omega
      have ok := (codeP_ok hc).1
      obtain ⟨v, hv⟩ := ok.nat
      rw [hc] at K1
      have K2 := Lib.hid (fun W (hW : Below w.heap.size w W) => all13_7 (c := c) (h.below hW) ok hv h7)
      have K3 := Lib.hid (fun W (hW : Below w.heap.size w W) => ess13_7 (c := c) (h.below hW) ok hv h7)
      have K4 := Lib.hid (fun W (hW : Below w.heap.size w W) => irr13_7 (c := c) (h.below hW) ok hv h7)
      have K5 := Lib.hid (fun W (hW : Below w.heap.size w W) => rAll13_ok (cp := c) (h.below hW) ok hv h7)
      rw [hv] at K0 K1 ⊢
      generalize supF f.fr = S at *
      generalize f.fr.val = V at *
      generalize f.nn = nn at *
      generalize f.top = tp at *
      clear ok hv h hh hc h7 ht
      go_enter Try.func13, Try.ntmps13
      go_wp2_with fail
      refine (awake13_any _).mono ?_
      rintro e w1 ⟨rfl, hb1⟩
      have hb1z := hb1.size
      simp only [World.size_alloc] at hb1z
      have x1_0 : w1.cell? ⟨w.heap.size, 0, none⟩ = some (.int .i64 (v : Int)) := (below_at hb1 (w.heap.size) 0 (by first | (simp; done) | (simp; omega))).trans (by simp [go_sem])
      have x1_1 : w1.cell? ⟨w.heap.size, 1, none⟩ = some (.slice A nn c) := (below_at hb1 (w.heap.size) 1 (by first | (simp; done) | (simp; omega))).trans (by simp [go_sem])
      have x1_2 : w1.cell? ⟨w.heap.size, 2, none⟩ = some (.int .i64 tp) := (below_at hb1 (w.heap.size) 2 (by first | (simp; done) | (simp; omega))).trans (by simp [go_sem])
      have hbA1 : Below w.heap.size w w1 := (by have z0 := Below.size hb1; (try simp only [World.size_alloc, World.size_setCell, World.size_drew, size_drewN'] at z0 ⊢; skip); repeat' (first | (with_reducible exact Below.refl _ _) | (with_reducible assumption) | (with_reducible refine Below.alloc ?_ ?_ _) | (with_reducible refine Below.drew ?_) | (with_reducible refine below_drewN ?_ _) | (with_reducible refine Below.setCell ?_ ?_ _) | (with_reducible refine Below.trans ?_ (Below.mono (by with_reducible assumption) ?_)) | omega | (simp only [World.size_alloc, World.size_setCell, World.size_drew, size_drewN']; omega) | go_size))
      clear hb1
      go_wp2_with fail
      refine (K0.out _ hbA1).mono ?_
      rintro e w2 ⟨rfl, hb2⟩
      have hb2z := hb2.size
      have x2_0 := (below_at hb2 (w.heap.size) 0 (by omega)).trans x1_0
      have x2_1 := (below_at hb2 (w.heap.size) 1 (by omega)).trans x1_1
      have x2_2 := (below_at hb2 (w.heap.size) 2 (by omega)).trans x1_2
      have hbA2 : Below w.heap.size w w2 := (by have z0 := Below.size hbA1; have z1 := Below.size hb2; (try simp only [World.size_alloc, World.size_setCell, World.size_drew, size_drewN'] at z0 z1 ⊢; skip); repeat' (first | (with_reducible exact Below.refl _ _) | (with_reducible assumption) | (with_reducible refine Below.alloc ?_ ?_ _) | (with_reducible refine Below.drew ?_) | (with_reducible refine below_drewN ?_ _) | (with_reducible refine Below.setCell ?_ ?_ _) | (with_reducible refine Below.trans ?_ (Below.mono (by with_reducible assumption) ?_)) | omega | (simp only [World.size_alloc, World.size_setCell, World.size_drew, size_drewN']; omega) | go_size))
      clear x1_0 x1_1 x1_2 hb2 hbA1
      go_wp2_with fail
      refine (K2.out _ hbA2).mono ?_
      rintro e w3 ⟨⟨s1, hs1, hl1, A1, c1, rfl, own1⟩, hb3⟩
      have hb3z := hb3.size
      have x3_0 := (below_at hb3 (w.heap.size) 0 (by omega)).trans x2_0
      have x3_1 := (below_at hb3 (w.heap.size) 1 (by omega)).trans x2_1
      have x3_2 := (below_at hb3 (w.heap.size) 2 (by omega)).trans x2_2
      have hbA3 : Below w.heap.size w w3 := (by have z0 := Below.size hbA2; have z1 := Below.size hb3; (try simp only [World.size_alloc, World.size_setCell, World.size_drew, size_drewN'] at z0 z1 ⊢; skip); repeat' (first | (with_reducible exact Below.refl _ _) | (with_reducible assumption) | (with_reducible refine Below.alloc ?_ ?_ _) | (with_reducible refine Below.drew ?_) | (with_reducible refine below_drewN ?_ _) | (with_reducible refine Below.setCell ?_ ?_ _) | (with_reducible refine Below.trans ?_ (Below.mono (by with_reducible assumption) ?_)) | omega | (simp only [World.size_alloc, World.size_setCell, World.size_drew, size_drewN']; omega) | go_size))
      clear x2_0 x2_1 x2_2 hb3 hbA2
      have HS := Lib.hid hs1
      clear hs1
      go_wp2_with fail
      refine (K3.out _ hbA3).mono ?_
      rintro e w4 ⟨⟨s2, hs2, hl2, A2, c2, rfl, own2⟩, hb4⟩
      have hb4z := hb4.size
      have x4_0 := (below_at hb4 (w.heap.size) 0 (by omega)).trans x3_0
      have x4_1 := (below_at hb4 (w.heap.size) 1 (by omega)).trans x3_1
      have x4_2 := (below_at hb4 (w.heap.size) 2 (by omega)).trans x3_2
      have oa4 := own1.below hb4
      have hbA4 : Below w.heap.size w w4 := (by have z0 := Below.size hbA3; have z1 := Below.size hb4; (try simp only [World.size_alloc, World.size_setCell, World.size_drew, size_drewN'] at z0 z1 ⊢; skip); repeat' (first | (with_reducible exact Below.refl _ _) | (with_reducible assumption) | (with_reducible refine Below.alloc ?_ ?_ _) | (with_reducible refine Below.drew ?_) | (with_reducible refine below_drewN ?_ _) | (with_reducible refine Below.setCell ?_ ?_ _) | (with_reducible refine Below.trans ?_ (Below.mono (by with_reducible assumption) ?_)) | omega | (simp only [World.size_alloc, World.size_setCell, World.size_drew, size_drewN']; omega) | go_size))
      clear x3_0 x3_1 x3_2 hb4 hbA3
      obtain rfl : s2 = s1 := hs2.uniq HS.out
      clear hs2
      go_wp2_with fail
      refine (K4.out _ hbA4).mono ?_
      rintro e w5 ⟨⟨s3, hs3, hl3, A3, c3, rfl, own3⟩, hb5⟩
      have hb5z := hb5.size
      have x5_0 := (below_at hb5 (w.heap.size) 0 (by omega)).trans x4_0
      have x5_1 := (below_at hb5 (w.heap.size) 1 (by omega)).trans x4_1
      have x5_2 := (below_at hb5 (w.heap.size) 2 (by omega)).trans x4_2
      have oa5 := oa4.below hb5
      have ob5 := own2.below hb5
      have hbA5 : Below w.heap.size w w5 := (by have z0 := Below.size hbA4; have z1 := Below.size hb5; (try simp only [World.size_alloc, World.size_setCell, World.size_drew, size_drewN'] at z0 z1 ⊢; skip); repeat' (first | (with_reducible exact Below.refl _ _) | (with_reducible assumption) | (with_reducible refine Below.alloc ?_ ?_ _) | (with_reducible refine Below.drew ?_) | (with_reducible refine below_drewN ?_ _) | (with_reducible refine Below.setCell ?_ ?_ _) | (with_reducible refine Below.trans ?_ (Below.mono (by with_reducible assumption) ?_)) | omega | (simp only [World.size_alloc, World.size_setCell, World.size_drew, size_drewN']; omega) | go_size))
      clear x4_0 x4_1 x4_2 hb5 hbA4
      obtain rfl : s3 = s2 := hs3.uniq HS.out
      clear hs3
      go_wp2_with fail
      refine (K1.out _ hbA5).mono ?_
      rintro e w6 ⟨rfl, hb6⟩
      have hb6z := hb6.size
      have x6_0 := (below_at hb6 (w.heap.size) 0 (by omega)).trans x5_0
      have x6_1 := (below_at hb6 (w.heap.size) 1 (by omega)).trans x5_1
      have x6_2 := (below_at hb6 (w.heap.size) 2 (by omega)).trans x5_2
      have oa6 := oa5.below hb6
      have ob6 := ob5.below hb6
      have oc6 := own3.below hb6
      have hbA6 : Below w.heap.size w w6 := (by have z0 := Below.size hbA5; have z1 := Below.size hb6; (try simp only [World.size_alloc, World.size_setCell, World.size_drew, size_drewN'] at z0 z1 ⊢; skip); repeat' (first | (with_reducible exact Below.refl _ _) | (with_reducible assumption) | (with_reducible refine Below.alloc ?_ ?_ _) | (with_reducible refine Below.drew ?_) | (with_reducible refine below_drewN ?_ _) | (with_reducible refine Below.setCell ?_ ?_ _) | (with_reducible refine Below.trans ?_ (Below.mono (by with_reducible assumption) ?_)) | omega | (simp only [World.size_alloc, World.size_setCell, World.size_drew, size_drewN']; omega) | go_size))
      clear x5_0 x5_1 x5_2 hb6 hbA5
      go_wp2_with fail
      refine (K5.out _ hbA6).mono ?_
      rintro e w7 ⟨⟨s4, hs4, hl4, A4, c4, rfl, own4⟩, hb7⟩
      have hb7z := hb7.size
      have oa7 := oa6.below hb7
      have ob7 := ob6.below hb7
      have oc7 := oc6.below hb7
      have hbA7 : Below w.heap.size w w7 := (by have z0 := Below.size hbA6; have z1 := Below.size hb7; (try simp only [World.size_alloc, World.size_setCell, World.size_drew, size_drewN'] at z0 z1 ⊢; skip); repeat' (first | (with_reducible exact Below.refl _ _) | (with_reducible assumption) | (with_reducible refine Below.alloc ?_ ?_ _) | (with_reducible refine Below.drew ?_) | (with_reducible refine below_drewN ?_ _) | (with_reducible refine Below.setCell ?_ ?_ _) | (with_reducible refine Below.trans ?_ (Below.mono (by with_reducible assumption) ?_)) | omega | (simp only [World.size_alloc, World.size_setCell, World.size_drew, size_drewN']; omega) | go_size))
      clear hb7 hbA6
      obtain rfl : s4 = s3 := hs4.uniq HS.out
      clear hs4
      have hok : ∀ d, d ∈ s4 → okN d := fun d hd => (HS.out.ok hd).1
      have HOK := Lib.hid hok
      have le1 := essN_len s4
      have le2 := irrN_len s4.length s4
      have KE := Lib.hid (fun A c W (hr : RdC W W.heap.size A (s4.map zc)) => ress13_any A s4 s4.length c W rfl hl4 HOK.out hr)
      have KI := Lib.hid (fun A c W (hr : RdC W W.heap.size A (s4.map zc)) => rirr13_any A s4 s4.length c W rfl hl4 HOK.out hr)
      clear hok K0 K1 K2 K3 K4 K5
      generalize essN s4 = E at *
      generalize irrN s4.length s4 = I at *
      generalize hns : s4.length = ns at *
      go_wp2_with (first | ((go_at_call 21; (with_reducible refine (num_0 _).mono ?_); rintro e _ ⟨rfl, rfl⟩)) | fail)
      have KC := Lib.hid (cubesN (a := c1) (b := c4) (w := w7) (l := s4) (m := s4) (by omega) (by omega) oa7.rd own4.rd)
      rw [decide_eq_true rfl, hns] at KC
      go_wp2_with fail
      refine (KC.out).mono ?_
      rintro e w8 ⟨rfl, hb8⟩
      have hb8z := hb8.size
      have oa8 := oa7.below hb8
      have ob8 := ob7.below hb8
      have oc8 := oc7.below hb8
      have od8 := own4.below hb8
      have hbA8 : Below w.heap.size w w8 := (by have z0 := Below.size hbA7; have z1 := Below.size hb8; (try simp only [World.size_alloc, World.size_setCell, World.size_drew, size_drewN'] at z0 z1 ⊢; skip); repeat' (first | (with_reducible exact Below.refl _ _) | (with_reducible assumption) | (with_reducible refine Below.alloc ?_ ?_ _) | (with_reducible refine Below.drew ?_) | (with_reducible refine below_drewN ?_ _) | (with_reducible refine Below.setCell ?_ ?_ _) | (with_reducible refine Below.trans ?_ (Below.mono (by with_reducible assumption) ?_)) | omega | (simp only [World.size_alloc, World.size_setCell, World.size_drew, size_drewN']; omega) | go_size))
      clear hb8 hbA7
      go_wp2_with fail
      refine (KE.out _ _ _ od8.rd).mono ?_
      rintro e w9 ⟨⟨A5, c5, rfl, own5⟩, hb9⟩
      have hb9z := hb9.size
      have oa9 := oa8.below hb9
      have ob9 := ob8.below hb9
      have oc9 := oc8.below hb9
      have od9 := od8.below hb9
      have hbA9 : Below w.heap.size w w9 := (by have z0 := Below.size hbA8; have z1 := Below.size hb9; (try simp only [World.size_alloc, World.size_setCell, World.size_drew, size_drewN'] at z0 z1 ⊢; skip); repeat' (first | (with_reducible exact Below.refl _ _) | (with_reducible assumption) | (with_reducible refine Below.alloc ?_ ?_ _) | (with_reducible refine Below.drew ?_) | (with_reducible refine below_drewN ?_ _) | (with_reducible refine Below.setCell ?_ ?_ _) | (with_reducible refine Below.trans ?_ (Below.mono (by with_reducible assumption) ?_)) | omega | (simp only [World.size_alloc, World.size_setCell, World.size_drew, size_drewN']; omega) | go_size))
      clear hb9 hbA8
      have KC2 := Lib.hid (cubesN (a := c2) (b := c5) (w := w9) (l := E) (m := E) (by omega) (by omega) ob9.rd own5.rd)
      rw [decide_eq_true rfl] at KC2
      go_wp2_with fail
      refine (KC2.out).mono ?_
      rintro e w10 ⟨rfl, hb10⟩
      have hb10z := hb10.size
      have oa10 := oa9.below hb10
      have ob10 := ob9.below hb10
      have oc10 := oc9.below hb10
      have od10 := od9.below hb10
      have oe10 := own5.below hb10
      have hbA10 : Below w.heap.size w w10 := (by have z0 := Below.size hbA9; have z1 := Below.size hb10; (try simp only [World.size_alloc, World.size_setCell, World.size_drew, size_drewN'] at z0 z1 ⊢; skip); repeat' (first | (with_reducible exact Below.refl _ _) | (with_reducible assumption) | (with_reducible refine Below.alloc ?_ ?_ _) | (with_reducible refine Below.drew ?_) | (with_reducible refine below_drewN ?_ _) | (with_reducible refine Below.setCell ?_ ?_ _) | (with_reducible refine Below.trans ?_ (Below.mono (by with_reducible assumption) ?_)) | omega | (simp only [World.size_alloc, World.size_setCell, World.size_drew, size_drewN']; omega) | go_size))
      clear hb10 hbA9
      go_wp2_with fail
      refine (KI.out _ _ _ od10.rd).mono ?_
      rintro e w11 ⟨⟨A6, c6, rfl, rd6⟩, hb11⟩
      have hb11z := hb11.size
      have oa11 := oa10.below hb11
      have ob11 := ob10.below hb11
      have oc11 := oc10.below hb11
      have od11 := od10.below hb11
      have oe11 := oe10.below hb11
      have hbA11 : Below w.heap.size w w11 := (by have z0 := Below.size hbA10; have z1 := Below.size hb11; (try simp only [World.size_alloc, World.size_setCell, World.size_drew, size_drewN'] at z0 z1 ⊢; skip); repeat' (first | (with_reducible exact Below.refl _ _) | (with_reducible assumption) | (with_reducible refine Below.alloc ?_ ?_ _) | (with_reducible refine Below.drew ?_) | (with_reducible refine below_drewN ?_ _) | (with_reducible refine Below.setCell ?_ ?_ _) | (with_reducible refine Below.trans ?_ (Below.mono (by with_reducible assumption) ?_)) | omega | (simp only [World.size_alloc, World.size_setCell, World.size_drew, size_drewN']; omega) | go_size))
      clear hb11 hbA10
      have KC3 := Lib.hid (cubesN (a := c3) (b := c6) (w := w11) (l := I) (m := I) (by omega) (by omega) oc11.rd rd6)
      rw [decide_eq_true rfl] at KC3
      go_wp2_with fail
      refine (KC3.out).mono ?_
      rintro e w12 ⟨rfl, hb12⟩
      have hb12z := hb12.size
      have hbA12 : Below w.heap.size w w12 := (by have z0 := Below.size hbA11; have z1 := Below.size hb12; (try simp only [World.size_alloc, World.size_setCell, World.size_drew, size_drewN'] at z0 z1 ⊢; skip); repeat' (first | (with_reducible exact Below.refl _ _) | (with_reducible assumption) | (with_reducible refine Below.alloc ?_ ?_ _) | (with_reducible refine Below.drew ?_) | (with_reducible refine below_drewN ?_ _) | (with_reducible refine Below.setCell ?_ ?_ _) | (with_reducible refine Below.trans ?_ (Below.mono (by with_reducible assumption) ?_)) | omega | (simp only [World.size_alloc, World.size_setCell, World.size_drew, size_drewN']; omega) | go_size))
      clear hb12 hbA11
      go_wp2_with fail
      go_returns
      exact ⟨rfl, hbA12⟩
    · have K2 := Lib.hid (fun W (hW : Below w.heap.size w W) => All_bad (c := c) (h.below hW) ht hc)
      have K3 := Lib.hid (fun W (hW : Below w.heap.size w W) => Essential_bad (c := c) (h.below hW) ht hc)
      have K4 := Lib.hid (fun W (hW : Below w.heap.size w W) => Irredundant_bad (c := c) (h.below hW) ht hc)
      have hq : (codeP f != 0) = true := by simpa using hc
      generalize codeP f = q at *
      generalize f.vars = v at *
      generalize f.nn = nn at *
      generalize f.top = tp at *
      clear h hh ht
      go_enter Try.func13, Try.ntmps13
      go_wp2_with fail
      refine (awake13_any _).mono ?_
      rintro e w1 ⟨rfl, hb1⟩
      have hb1z := hb1.size
      simp only [World.size_alloc] at hb1z
      have x1_0 : w1.cell? ⟨w.heap.size, 0, none⟩ = some (.int .i64 v) := (below_at hb1 (w.heap.size) 0 (by first | (simp; done) | (simp; omega))).trans (by simp [go_sem])
      have x1_1 : w1.cell? ⟨w.heap.size, 1, none⟩ = some (.slice A nn c) := (below_at hb1 (w.heap.size) 1 (by first | (simp; done) | (simp; omega))).trans (by simp [go_sem])
      have x1_2 : w1.cell? ⟨w.heap.size, 2, none⟩ = some (.int .i64 tp) := (below_at hb1 (w.heap.size) 2 (by first | (simp; done) | (simp; omega))).trans (by simp [go_sem])
      have hbA1 : Below w.heap.size w w1 := (by have z0 := Below.size hb1; (try simp only [World.size_alloc, World.size_setCell, World.size_drew, size_drewN'] at z0 ⊢; skip); repeat' (first | (with_reducible exact Below.refl _ _) | (with_reducible assumption) | (with_reducible refine Below.alloc ?_ ?_ _) | (with_reducible refine Below.drew ?_) | (with_reducible refine below_drewN ?_ _) | (with_reducible refine Below.setCell ?_ ?_ _) | (with_reducible refine Below.trans ?_ (Below.mono (by with_reducible assumption) ?_)) | omega | (simp only [World.size_alloc, World.size_setCell, World.size_drew, size_drewN']; omega) | go_size))
      clear hb1
      go_wp2_with fail
      refine (K0.out _ hbA1).mono ?_
      rintro e w2 ⟨rfl, hb2⟩
      have hb2z := hb2.size
      have x2_0 := (below_at hb2 (w.heap.size) 0 (by omega)).trans x1_0
      have x2_1 := (below_at hb2 (w.heap.size) 1 (by omega)).trans x1_1
      have x2_2 := (below_at hb2 (w.heap.size) 2 (by omega)).trans x1_2
      have hbA2 : Below w.heap.size w w2 := (by have z0 := Below.size hbA1; have z1 := Below.size hb2; (try simp only [World.size_alloc, World.size_setCell, World.size_drew, size_drewN'] at z0 z1 ⊢; skip); repeat' (first | (with_reducible exact Below.refl _ _) | (with_reducible assumption) | (with_reducible refine Below.alloc ?_ ?_ _) | (with_reducible refine Below.drew ?_) | (with_reducible refine below_drewN ?_ _) | (with_reducible refine Below.setCell ?_ ?_ _) | (with_reducible refine Below.trans ?_ (Below.mono (by with_reducible assumption) ?_)) | omega | (simp only [World.size_alloc, World.size_setCell, World.size_drew, size_drewN']; omega) | go_size))
      clear x1_0 x1_1 x1_2 hb2 hbA1
      go_wp2_with fail
      refine (K2.out _ hbA2).mono ?_
      rintro e w3 ⟨rfl, hb3⟩
      have hb3z := hb3.size
      have x3_0 := (below_at hb3 (w.heap.size) 0 (by omega)).trans x2_0
      have x3_1 := (below_at hb3 (w.heap.size) 1 (by omega)).trans x2_1
      have x3_2 := (below_at hb3 (w.heap.size) 2 (by omega)).trans x2_2
      have hbA3 : Below w.heap.size w w3 := (by have z0 := Below.size hbA2; have z1 := Below.size hb3; (try simp only [World.size_alloc, World.size_setCell, World.size_drew, size_drewN'] at z0 z1 ⊢; skip); repeat' (first | (with_reducible exact Below.refl _ _) | (with_reducible assumption) | (with_reducible refine Below.alloc ?_ ?_ _) | (with_reducible refine Below.drew ?_) | (with_reducible refine below_drewN ?_ _) | (with_reducible refine Below.setCell ?_ ?_ _) | (with_reducible refine Below.trans ?_ (Below.mono (by with_reducible assumption) ?_)) | omega | (simp only [World.size_alloc, World.size_setCell, World.size_drew, size_drewN']; omega) | go_size))
      clear x2_0 x2_1 x2_2 hb3 hbA2
      go_wp2_with fail
      refine (K3.out _ hbA3).mono ?_
      rintro e w4 ⟨rfl, hb4⟩
      have hb4z := hb4.size
      have x4_0 := (below_at hb4 (w.heap.size) 0 (by omega)).trans x3_0
      have x4_1 := (below_at hb4 (w.heap.size) 1 (by omega)).trans x3_1
      have x4_2 := (below_at hb4 (w.heap.size) 2 (by omega)).trans x3_2
      have hbA4 : Below w.heap.size w w4 := (by have z0 := Below.size hbA3; have z1 := Below.size hb4; (try simp only [World.size_alloc, World.size_setCell, World.size_drew, size_drewN'] at z0 z1 ⊢; skip); repeat' (first | (with_reducible exact Below.refl _ _) | (with_reducible assumption) | (with_reducible refine Below.alloc ?_ ?_ _) | (with_reducible refine Below.drew ?_) | (with_reducible refine below_drewN ?_ _) | (with_reducible refine Below.setCell ?_ ?_ _) | (with_reducible refine Below.trans ?_ (Below.mono (by with_reducible assumption) ?_)) | omega | (simp only [World.size_alloc, World.size_setCell, World.size_drew, size_drewN']; omega) | go_size))
      clear x3_0 x3_1 x3_2 hb4 hbA3
      go_wp2_with fail
      refine (K4.out _ hbA4).mono ?_
      rintro e w5 ⟨rfl, hb5⟩
      have hb5z := hb5.size
      have x5_0 := (below_at hb5 (w.heap.size) 0 (by omega)).trans x4_0
      have x5_1 := (below_at hb5 (w.heap.size) 1 (by omega)).trans x4_1
      have x5_2 := (below_at hb5 (w.heap.size) 2 (by omega)).trans x4_2
      have hbA5 : Below w.heap.size w w5 := (by have z0 := Below.size hbA4; have z1 := Below.size hb5; (try simp only [World.size_alloc, World.size_setCell, World.size_drew, size_drewN'] at z0 z1 ⊢; skip); repeat' (first | (with_reducible exact Below.refl _ _) | (with_reducible assumption) | (with_reducible refine Below.alloc ?_ ?_ _) | (with_reducible refine Below.drew ?_) | (with_reducible refine below_drewN ?_ _) | (with_reducible refine Below.setCell ?_ ?_ _) | (with_reducible refine Below.trans ?_ (Below.mono (by with_reducible assumption) ?_)) | omega | (simp only [World.size_alloc, World.size_setCell, World.size_drew, size_drewN']; omega) | go_size))
      clear x4_0 x4_1 x4_2 hb5 hbA4
      go_wp2_with fail
      refine (K1.out _ hbA5).mono ?_
      rintro e w6 ⟨rfl, hb6⟩
      have hb6z := hb6.size
      have hbA6 : Below w.heap.size w w6 := (by have z0 := Below.size hbA5; have z1 := Below.size hb6; (try simp only [World.size_alloc, World.size_setCell, World.size_drew, size_drewN'] at z0 z1 ⊢; skip); repeat' (first | (with_reducible exact Below.refl _ _) | (with_reducible assumption) | (with_reducible refine Below.alloc ?_ ?_ _) | (with_reducible refine Below.drew ?_) | (with_reducible refine below_drewN ?_ _) | (with_reducible refine Below.setCell ?_ ?_ _) | (with_reducible refine Below.trans ?_ (Below.mono (by with_reducible assumption) ?_)) | omega | (simp only [World.size_alloc, World.size_setCell, World.size_drew, size_drewN']; omega) | go_size))
      clear hb6 hbA5
      go_wp2_with (first | ((go_at_call 21; (with_reducible refine (num_n q _).mono ?_); rintro e _ ⟨rfl, rfl⟩)) | fail)
      go_returns
      exact ⟨by simp, hbA6⟩
end
end Go.Proofs.Ytedopalmfakeaaa
