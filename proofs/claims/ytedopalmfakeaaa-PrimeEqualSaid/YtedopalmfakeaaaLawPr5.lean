/- Contracts of functions and lemmas, used by the proofs of the given statements. No condition beyond those that each lemma names. -/
import Derived.Test.YtedopalmfakeaaaLawPr4
import Derived.Test.YtedopalmfakeaaaPrX7
import Derived.Test.YtedopalmfakeaaaPrX8
namespace Go.Proofs.Ytedopalmfakeaaa
open Go.RowKit Go.Sort
set_option linter.unusedSimpArgs false
set_option linter.unusedVariables false
set_option maxRecDepth 20000
/-! ## law13: PrimeImplied -/
attribute [local irreducible] pop popc
/-- does the cube imply one of the first k -/
def anyW (l : List Cn) (c : Cn) (k : Nat) : Bool := (l.take k).any fun p => wiN c p
theorem anyW_succ (l : List Cn) (c : Cn) {k : Nat} (hk : k < l.length) : anyW l c (k + 1) = (anyW l c k || wiN c (atN l k)) := by
  unfold anyW
  rw [List.take_succ_eq_append_getElem hk, List.any_append, atN_lt hk]
  simp
theorem anyW_all {S : Nat} {V : Nat → Bool} {I : Cn → Bool} {l : List Cn} {c : Cn} (hs : PrmS S V l) (hc : okN c) (hI : ∀ c, I c = true ↔ impN S V (onS S c)) : anyW l c l.length = I c := by
  rw [Bool.eq_iff_iff, hI, implied hc]
  unfold anyW
  rw [List.take_length, List.any_eq_true]
  constructor
  · rintro ⟨p, h1, h2⟩; exact ⟨p, (hs.2 p).1 h1, h2⟩
  · rintro ⟨p, h1, h2⟩; exact ⟨p, (hs.2 p).2 h1, h2⟩
theorem in_ev {S v : Nat} {c : Cn} (hS : S < 2 ^ v) (h : inS S c) : evN c / 2 ^ v = 0 := by
  refine Nat.div_eq_of_lt (Nat.lt_pow_two_of_testBit _ fun i hi => ?_)
  cases e : (evN c).testBit i
  · rfl
  · have h1 := ev_ins h i e
    rw [Nat.testBit_lt_two_pow (Nat.lt_of_lt_of_le hS (Nat.pow_le_pow_right (by omega) hi))] at h1
    simp at h1
section
variable {w : World} {A : Option Addr} {cp : Nat} {f : FrR} {c : Cb}
set_option maxHeartbeats 8000000 in
theorem primeImplied_law (h : FrI w A f) (ht : f.top ≤ 9223372036854775807) :
    Calls Try.prog 16 #[fv f.vars A f.nn cp f.top, cbv c] w fun e w' => e = .returned (.bool true) ∧ Below w.heap.size w w' := by
  have K1 := Lib.hid (fun W (hW : Below w.heap.size w W) => valid13_any (c := cp) (h.below hW) ht)
  by_cases hvd : codeP f = 0 ∧ popc (supF f.fr) ≤ 7
  · have ok := (codeP_ok hvd.1).1
    obtain ⟨v, hv⟩ := ok.nat
    have v1 : v ≤ 24 := by have := ok.v1; omega
    have K6 := Lib.hid (fun (W : World) => rcheckCube_any (w := W) (A := A) (cp := cp) (c := c) (nn := f.nn) (tp := f.top) v1)
    rw [decide_eq_true hvd] at K1
    by_cases hcQ : codeQ v c = 0
    · rw [hcQ] at K6
      obtain ⟨a, ha, rfl, hev⟩ := codeQ_zero hcQ
      obtain ⟨I, hI⟩ := impI_ex (supF f.fr) f.fr.val
      have hSv := (supF_lt ok hv).1
      have K2 := Lib.hid (fun W (hW : Below w.heap.size w W) => all13_7 (c := cp) (h.below hW) ok hv hvd.2)
      have K3 := Lib.hid (fun W (hW : Below w.heap.size w W) => ImplicantX_ok (cp := cp) (h.below hW) ok hv (by omega) ha hev hI)
      have K4 := Lib.hid (fun W (hW : Below w.heap.size w W) p (hp : prmN (supF f.fr) f.fr.val p) => (by
        have := PrimeX_ok (cp := cp) (h.below hW) ok hv (by omega) hp.1 (in_ev hSv hp.2.1) hI
        rwa [prm_primeI hI hp] at this : Calls Try.prog 66 #[fv (v : Int) A f.nn cp f.top, cbv (zc p)] W fun e w' => e = .returned (.tuple #[.bool true, .nilIface]) ∧ Below W.heap.size W w'))
      have K5 := Lib.hid (fun W p (hp : okN p) => implies_ok a p ha hp W)
      have HA := Lib.hid (fun s (hs : PrmS (supF f.fr) f.fr.val s) => anyW_all hs ha hI)
      rw [hv] at K1 ⊢
      generalize supF f.fr = S at *
      generalize f.fr.val = V at *
      generalize hIa : I a = bi at *
      generalize f.nn = nn at *
      generalize f.top = tp at *
      clear ok hv h hvd ht hcQ hI ha hev hIa hSv
      have HAW := Lib.hid (fun s k (hk : k < s.length) => anyW_succ s a hk)
      have HA0 : Hid (∀ s, anyW s a 0 = false) := fun s => rfl
      have HWI : Hid (∀ p, wiN a p = wiN a p) := fun _ => rfl
      obtain ⟨wa, hwa⟩ : ∃ wa : Cn → Bool, wa = wiN a := ⟨_, rfl⟩
      rw [← hwa] at K5 HAW
      generalize hAq : (fun s => anyW s a) = aW at *
      have HQ : Hid (∀ s k, anyW s a k = aW s k) := fun s k => by rw [← hAq]
      simp only [HQ.out] at HA HAW HA0
      clear HWI hwa hAq HQ
      obtain ⟨c1, c2⟩ := a
      go_enter Try.func16, Try.ntmps16
      go_wp2_with fail
      refine (awake13_any _).mono ?_
      rintro e w1 ⟨rfl, hb1⟩
      have hb1z := hb1.size
      simp only [World.size_alloc] at hb1z
      have x1_0 : w1.cell? ⟨w.heap.size, 0, none⟩ = some (.int .i64 (v : Int)) := (below_at hb1 (w.heap.size) 0 (by first | (simp; done) | (simp; omega))).trans (by simp [go_sem])
      have x1_1 : w1.cell? ⟨w.heap.size, 1, none⟩ = some (.slice A nn cp) := (below_at hb1 (w.heap.size) 1 (by first | (simp; done) | (simp; omega))).trans (by simp [go_sem])
      have x1_2 : w1.cell? ⟨w.heap.size, 2, none⟩ = some (.int .i64 tp) := (below_at hb1 (w.heap.size) 2 (by first | (simp; done) | (simp; omega))).trans (by simp [go_sem])
      have x1_3 : w1.cell? ⟨w.heap.size + 1, 0, none⟩ = some (.int .i64 (c1 : Int)) := (below_at hb1 (w.heap.size + 1) 0 (by first | (simp; done) | (simp; omega))).trans (by simp [go_sem])
      have x1_4 : w1.cell? ⟨w.heap.size + 1, 1, none⟩ = some (.int .i64 (c2 : Int)) := (below_at hb1 (w.heap.size + 1) 1 (by first | (simp; done) | (simp; omega))).trans (by simp [go_sem])
      have hbA1 : Below w.heap.size w w1 := (by have z0 := Below.size hb1; (try simp only [World.size_alloc, World.size_setCell, World.size_drew, size_drewN'] at z0 ⊢; skip); repeat' (first | (with_reducible exact Below.refl _ _) | (with_reducible assumption) | (with_reducible refine Below.alloc ?_ ?_ _) | (with_reducible refine Below.drew ?_) | (with_reducible refine below_drewN ?_ _) | (with_reducible refine Below.setCell ?_ ?_ _) | (with_reducible refine Below.trans ?_ (Below.mono (by with_reducible assumption) ?_)) | omega | (simp only [World.size_alloc, World.size_setCell, World.size_drew, size_drewN']; omega) | go_size))
      clear hb1
      go_wp2_with fail
      refine (K1.out _ hbA1).mono ?_
      rintro e w2 ⟨rfl, hb2⟩
      have hb2z := hb2.size
      have x2_0 := (below_at hb2 (w.heap.size) 0 (by omega)).trans x1_0
      have x2_1 := (below_at hb2 (w.heap.size) 1 (by omega)).trans x1_1
      have x2_2 := (below_at hb2 (w.heap.size) 2 (by omega)).trans x1_2
      have x2_3 := (below_at hb2 (w.heap.size + 1) 0 (by omega)).trans x1_3
      have x2_4 := (below_at hb2 (w.heap.size + 1) 1 (by omega)).trans x1_4
      have hbA2 : Below w.heap.size w w2 := (by have z0 := Below.size hbA1; have z1 := Below.size hb2; (try simp only [World.size_alloc, World.size_setCell, World.size_drew, size_drewN'] at z0 z1 ⊢; skip); repeat' (first | (with_reducible exact Below.refl _ _) | (with_reducible assumption) | (with_reducible refine Below.alloc ?_ ?_ _) | (with_reducible refine Below.drew ?_) | (with_reducible refine below_drewN ?_ _) | (with_reducible refine Below.setCell ?_ ?_ _) | (with_reducible refine Below.trans ?_ (Below.mono (by with_reducible assumption) ?_)) | omega | (simp only [World.size_alloc, World.size_setCell, World.size_drew, size_drewN']; omega) | go_size))
      clear x1_0 x1_1 x1_2 x1_3 x1_4 hb2 hbA1
      go_wp2_with fail
      refine (K6.out _).mono ?_
      rintro e w3 ⟨rfl, hb3⟩
      have hb3z := hb3.size
      have x3_0 := (below_at hb3 (w.heap.size) 0 (by omega)).trans x2_0
      have x3_1 := (below_at hb3 (w.heap.size) 1 (by omega)).trans x2_1
      have x3_2 := (below_at hb3 (w.heap.size) 2 (by omega)).trans x2_2
      have x3_3 := (below_at hb3 (w.heap.size + 1) 0 (by omega)).trans x2_3
      have x3_4 := (below_at hb3 (w.heap.size + 1) 1 (by omega)).trans x2_4
      have hbA3 : Below w.heap.size w w3 := (by have z0 := Below.size hbA2; have z1 := Below.size hb3; (try simp only [World.size_alloc, World.size_setCell, World.size_drew, size_drewN'] at z0 z1 ⊢; skip); repeat' (first | (with_reducible exact Below.refl _ _) | (with_reducible assumption) | (with_reducible refine Below.alloc ?_ ?_ _) | (with_reducible refine Below.drew ?_) | (with_reducible refine below_drewN ?_ _) | (with_reducible refine Below.setCell ?_ ?_ _) | (with_reducible refine Below.trans ?_ (Below.mono (by with_reducible assumption) ?_)) | omega | (simp only [World.size_alloc, World.size_setCell, World.size_drew, size_drewN']; omega) | go_size))
      clear x2_0 x2_1 x2_2 x2_3 x2_4 hb3 hbA2
      go_wp2_with fail
      refine (K2.out _ hbA3).mono ?_
      rintro e w4 ⟨⟨s, hs, hl, A3, c3, rfl, own3⟩, hb4⟩
      have hb4z := hb4.size
      have x4_0 := (below_at hb4 (w.heap.size) 0 (by omega)).trans x3_0
      have x4_1 := (below_at hb4 (w.heap.size) 1 (by omega)).trans x3_1
      have x4_2 := (below_at hb4 (w.heap.size) 2 (by omega)).trans x3_2
      have x4_3 := (below_at hb4 (w.heap.size + 1) 0 (by omega)).trans x3_3
      have x4_4 := (below_at hb4 (w.heap.size + 1) 1 (by omega)).trans x3_4
      have hbA4 : Below w.heap.size w w4 := (by have z0 := Below.size hbA3; have z1 := Below.size hb4; (try simp only [World.size_alloc, World.size_setCell, World.size_drew, size_drewN'] at z0 z1 ⊢; skip); repeat' (first | (with_reducible exact Below.refl _ _) | (with_reducible assumption) | (with_reducible refine Below.alloc ?_ ?_ _) | (with_reducible refine Below.drew ?_) | (with_reducible refine below_drewN ?_ _) | (with_reducible refine Below.setCell ?_ ?_ _) | (with_reducible refine Below.trans ?_ (Below.mono (by with_reducible assumption) ?_)) | omega | (simp only [World.size_alloc, World.size_setCell, World.size_drew, size_drewN']; omega) | go_size))
      clear x3_0 x3_1 x3_2 x3_3 x3_4 hb4 hbA3
      have HS := Lib.hid hs
      clear hs
      go_wp2_with fail
      refine (K3.out _ hbA4).mono ?_
      rintro e w5 ⟨rfl, hb5⟩
      have hb5z := hb5.size
      have x5_0 := (below_at hb5 (w.heap.size) 0 (by omega)).trans x4_0
      have x5_1 := (below_at hb5 (w.heap.size) 1 (by omega)).trans x4_1
      have x5_2 := (below_at hb5 (w.heap.size) 2 (by omega)).trans x4_2
      have x5_3 := (below_at hb5 (w.heap.size + 1) 0 (by omega)).trans x4_3
      have x5_4 := (below_at hb5 (w.heap.size + 1) 1 (by omega)).trans x4_4
      have oa5 := own3.below hb5
      have hbA5 : Below w.heap.size w w5 := (by have z0 := Below.size hbA4; have z1 := Below.size hb5; (try simp only [World.size_alloc, World.size_setCell, World.size_drew, size_drewN'] at z0 z1 ⊢; skip); repeat' (first | (with_reducible exact Below.refl _ _) | (with_reducible assumption) | (with_reducible refine Below.alloc ?_ ?_ _) | (with_reducible refine Below.drew ?_) | (with_reducible refine below_drewN ?_ _) | (with_reducible refine Below.setCell ?_ ?_ _) | (with_reducible refine Below.trans ?_ (Below.mono (by with_reducible assumption) ?_)) | omega | (simp only [World.size_alloc, World.size_setCell, World.size_drew, size_drewN']; omega) | go_size))
      clear x4_0 x4_1 x4_2 x4_3 x4_4 hb5 hbA4
      have HAE := Lib.hid (HA.out s HS.out)
      have HAWs := Lib.hid (HAW.out s)
      have HA0s := Lib.hid (HA0.out s)
      generalize aW s = bW at *
      have HB := Lib.hid hbA5
      have rds := oa5.rd
      have hwz : w.heap.size + 1 < w5.heap.size := lt_of_cell x5_3
      clear oa5 hbA5 HA HAW HA0 K1 K2 K3 K6
      go_wp2_with fail
      go_loopw [9, 10] (fun b i wr => ∃ k : Nat, k ≤ s.length ∧ b = .bool (bW k) ∧ i = .int .i64 k ∧ Below w5.heap.size w5 wr) (fun _ i _ => s.length - (intOf i).toNat)
      case atStart => exact ⟨0, Nat.zero_le _, by rw [HA0s.out], rfl, Below.refl _ _⟩
      case round =>
        obtain ⟨k, hk, rfl, rfl, hb⟩ := hrel
        obtain ⟨wo, rfl⟩ : ∃ wo : World, wo = wr := ⟨_, rfl⟩
        have hbz := hb.size
        have hbW : Below w.heap.size w wo := HB.out.trans (hb.mono (by omega))
        have u0 := (below_at hb w.heap.size 0 (by omega)).trans x5_0
        have u1 := (below_at hb w.heap.size 1 (by omega)).trans x5_1
        have u2 := (below_at hb w.heap.size 2 (by omega)).trans x5_2
        have u3 := (below_at hb (w.heap.size + 1) 0 hwz).trans x5_3
        have u4 := (below_at hb (w.heap.size + 1) 1 hwz).trans x5_4
        by_cases hlt : k < s.length
        · obtain ⟨b, off, rfl, hbb, y1, y2⟩ := (rds.below hb).at_ (k := k) (c := zc (atN s k)) (by rw [List.getElem?_map, List.getElem?_eq_getElem hlt, atN_lt hlt]; rfl)
          have hp := (HS.out.2 _).1 (atN_mem hlt)
          have KP := Lib.hid (fun W (hW : Below wo.heap.size wo W) => K4.out W (hbW.trans (hW.mono (by have := hbW.size; omega))) _ hp)
          have KI := Lib.hid (fun W => K5.out W _ hp.1)
          have HX := Lib.hid (HAWs.out k hlt)
          generalize wa (atN s k) = bq at *
          generalize atN s k = d at *
          clear hp
          obtain ⟨d1, d2⟩ := d
          have i1 : (0 : Int) ≤ (k : Int) := by omega
          have i2 : (k : Int) < (s.length : Int) := by omega
          have f0 := fun y : Sub wo => y.cell u0
          have f1 := fun y : Sub wo => y.cell u1
          have f2 := fun y : Sub wo => y.cell u2
          have f5 := fun y : Sub wo => y.cell y1
          have f6 := fun y : Sub wo => y.cell y2
          go_wp2_with fail
          ((refine wp_region_quiet_bel (by kernel_rfl) (by kernel_rfl) ?_); (repeat (go_big_quiet_step ((go_at_call 66; with_reducible exact Calls.quiet_bel (KP.out _ (Sub.bel _)))))); (refine wpQuiet_nil ?_); rintro w7 ⟨⟨_, hb7⟩, rfl⟩; (try dsimp only))
          have hb7z := hb7.size
          have z3 := (below_at hb7 (w.heap.size + 1) 0 (by omega)).trans u3
          have z4 := (below_at hb7 (w.heap.size + 1) 1 (by omega)).trans u4
          have z5 := (below_at hb7 b _ (by omega)).trans y1
          have z6 := (below_at hb7 b _ (by omega)).trans y2
          clear f0 f1 f2 f5 f6 KP
          have f3 := fun y : Sub w7 => y.cell z3
          have f4 := fun y : Sub w7 => y.cell z4
          have f5 := fun y : Sub w7 => y.cell z5
          have f6 := fun y : Sub w7 => y.cell z6
          go_wp2_with fail
          ((refine wp_region_quiet_bel (by kernel_rfl) (by kernel_rfl) ?_); (repeat (go_big_quiet_step ((go_at_call 28; with_reducible exact Calls.quiet_bel (KI.out _))))); (refine wpQuiet_nil ?_); rintro w8 ⟨⟨_, hb8⟩, rfl⟩; (try dsimp only))
          cases hbk : bW k
          · have HX2 : Hid (bW (k + 1) = bq) := by show _ = _; rw [HX.out, hbk, Bool.false_or]
            go_wp2_with fail
            go_roundw
            case rel => exact ⟨k + 1, by omega, by rw [HX2.out], by go_num, (by have z0 := Below.size hb; have z1 := Below.size hb7; have z2 := Below.size hb8; (try simp only [World.size_alloc, World.size_setCell, World.size_drew, size_drewN'] at z0 z1 z2 ⊢; skip); repeat' (first | (with_reducible exact Below.refl _ _) | (with_reducible assumption) | (with_reducible refine Below.alloc ?_ ?_ _) | (with_reducible refine Below.drew ?_) | (with_reducible refine below_drewN ?_ _) | (with_reducible refine Below.setCell ?_ ?_ _) | (with_reducible refine Below.trans ?_ (Below.mono (by with_reducible assumption) ?_)) | omega | (simp only [World.size_alloc, World.size_setCell, World.size_drew, size_drewN']; omega) | go_size))⟩
            case measure => simp [intOf]; omega
          · have HX2 : Hid (bW (k + 1) = true) := by show _ = _; rw [HX.out, hbk, Bool.true_or]
            go_wp2_with fail
            go_roundw
            case rel => exact ⟨k + 1, by omega, by rw [HX2.out], by go_num, (by have z0 := Below.size hb; have z1 := Below.size hb7; have z2 := Below.size hb8; (try simp only [World.size_alloc, World.size_setCell, World.size_drew, size_drewN'] at z0 z1 z2 ⊢; skip); repeat' (first | (with_reducible exact Below.refl _ _) | (with_reducible assumption) | (with_reducible refine Below.alloc ?_ ?_ _) | (with_reducible refine Below.drew ?_) | (with_reducible refine below_drewN ?_ _) | (with_reducible refine Below.setCell ?_ ?_ _) | (with_reducible refine Below.trans ?_ (Below.mono (by with_reducible assumption) ?_)) | omega | (simp only [World.size_alloc, World.size_setCell, World.size_drew, size_drewN']; omega) | go_size))⟩
            case measure => simp [intOf]; omega
        · obtain rfl : k = s.length := by omega
          rw [HAE.out]
          have eqb : (bi == bi) = true := by simp
          go_wp2_with fail
          go_returns
          exact ⟨by simp, hbW⟩
    · have hq : (codeQ v c != 0) = true := by simpa using hcQ
      rw [hv] at K1 ⊢
      generalize codeQ v c = q at *
      generalize f.nn = nn at *
      generalize f.top = tp at *
      clear ok hv h hvd ht hcQ
      obtain ⟨c1, c2⟩ := c
      go_enter Try.func16, Try.ntmps16
      go_wp2_with fail
      refine (awake13_any _).mono ?_
      rintro e w1 ⟨rfl, hb1⟩
      have hb1z := hb1.size
      simp only [World.size_alloc] at hb1z
      have x1_0 : w1.cell? ⟨w.heap.size, 0, none⟩ = some (.int .i64 (v : Int)) := (below_at hb1 (w.heap.size) 0 (by first | (simp; done) | (simp; omega))).trans (by simp [go_sem])
      have x1_1 : w1.cell? ⟨w.heap.size, 1, none⟩ = some (.slice A nn cp) := (below_at hb1 (w.heap.size) 1 (by first | (simp; done) | (simp; omega))).trans (by simp [go_sem])
      have x1_2 : w1.cell? ⟨w.heap.size, 2, none⟩ = some (.int .i64 tp) := (below_at hb1 (w.heap.size) 2 (by first | (simp; done) | (simp; omega))).trans (by simp [go_sem])
      have x1_3 : w1.cell? ⟨w.heap.size + 1, 0, none⟩ = some (.int .i64 c1) := (below_at hb1 (w.heap.size + 1) 0 (by first | (simp; done) | (simp; omega))).trans (by simp [go_sem])
      have x1_4 : w1.cell? ⟨w.heap.size + 1, 1, none⟩ = some (.int .i64 c2) := (below_at hb1 (w.heap.size + 1) 1 (by first | (simp; done) | (simp; omega))).trans (by simp [go_sem])
      have hbA1 : Below w.heap.size w w1 := (by have z0 := Below.size hb1; (try simp only [World.size_alloc, World.size_setCell, World.size_drew, size_drewN'] at z0 ⊢; skip); repeat' (first | (with_reducible exact Below.refl _ _) | (with_reducible assumption) | (with_reducible refine Below.alloc ?_ ?_ _) | (with_reducible refine Below.drew ?_) | (with_reducible refine below_drewN ?_ _) | (with_reducible refine Below.setCell ?_ ?_ _) | (with_reducible refine Below.trans ?_ (Below.mono (by with_reducible assumption) ?_)) | omega | (simp only [World.size_alloc, World.size_setCell, World.size_drew, size_drewN']; omega) | go_size))
      clear hb1
      go_wp2_with fail
      refine (K1.out _ hbA1).mono ?_
      rintro e w2 ⟨rfl, hb2⟩
      have hb2z := hb2.size
      have x2_0 := (below_at hb2 (w.heap.size) 0 (by omega)).trans x1_0
      have x2_1 := (below_at hb2 (w.heap.size) 1 (by omega)).trans x1_1
      have x2_2 := (below_at hb2 (w.heap.size) 2 (by omega)).trans x1_2
      have x2_3 := (below_at hb2 (w.heap.size + 1) 0 (by omega)).trans x1_3
      have x2_4 := (below_at hb2 (w.heap.size + 1) 1 (by omega)).trans x1_4
      have hbA2 : Below w.heap.size w w2 := (by have z0 := Below.size hbA1; have z1 := Below.size hb2; (try simp only [World.size_alloc, World.size_setCell, World.size_drew, size_drewN'] at z0 z1 ⊢; skip); repeat' (first | (with_reducible exact Below.refl _ _) | (with_reducible assumption) | (with_reducible refine Below.alloc ?_ ?_ _) | (with_reducible refine Below.drew ?_) | (with_reducible refine below_drewN ?_ _) | (with_reducible refine Below.setCell ?_ ?_ _) | (with_reducible refine Below.trans ?_ (Below.mono (by with_reducible assumption) ?_)) | omega | (simp only [World.size_alloc, World.size_setCell, World.size_drew, size_drewN']; omega) | go_size))
      clear x1_0 x1_1 x1_2 x1_3 x1_4 hb2 hbA1
      go_wp2_with fail
      refine (K6.out _).mono ?_
      rintro e w3 ⟨rfl, hb3⟩
      have hb3z := hb3.size
      have x3_0 := (below_at hb3 (w.heap.size) 0 (by omega)).trans x2_0
      have x3_1 := (below_at hb3 (w.heap.size) 1 (by omega)).trans x2_1
      have x3_2 := (below_at hb3 (w.heap.size) 2 (by omega)).trans x2_2
      have x3_3 := (below_at hb3 (w.heap.size + 1) 0 (by omega)).trans x2_3
      have x3_4 := (below_at hb3 (w.heap.size + 1) 1 (by omega)).trans x2_4
      have hbA3 : Below w.heap.size w w3 := (by have z0 := Below.size hbA2; have z1 := Below.size hb3; (try simp only [World.size_alloc, World.size_setCell, World.size_drew, size_drewN'] at z0 z1 ⊢; skip); repeat' (first | (with_reducible exact Below.refl _ _) | (with_reducible assumption) | (with_reducible refine Below.alloc ?_ ?_ _) | (with_reducible refine Below.drew ?_) | (with_reducible refine below_drewN ?_ _) | (with_reducible refine Below.setCell ?_ ?_ _) | (with_reducible refine Below.trans ?_ (Below.mono (by with_reducible assumption) ?_)) | omega | (simp only [World.size_alloc, World.size_setCell, World.size_drew, size_drewN']; omega) | go_size))
      clear x2_0 x2_1 x2_2 x2_3 x2_4 hb3 hbA2
      go_wp2_with fail
      refine (awake13_any _).mono ?_
      rintro e w4 ⟨rfl, hb4⟩
      have hb4z := hb4.size
      have hbA4 : Below w.heap.size w w4 := (by have z0 := Below.size hbA3; have z1 := Below.size hb4; (try simp only [World.size_alloc, World.size_setCell, World.size_drew, size_drewN'] at z0 z1 ⊢; skip); repeat' (first | (with_reducible exact Below.refl _ _) | (with_reducible assumption) | (with_reducible refine Below.alloc ?_ ?_ _) | (with_reducible refine Below.drew ?_) | (with_reducible refine below_drewN ?_ _) | (with_reducible refine Below.setCell ?_ ?_ _) | (with_reducible refine Below.trans ?_ (Below.mono (by with_reducible assumption) ?_)) | omega | (simp only [World.size_alloc, World.size_setCell, World.size_drew, size_drewN']; omega) | go_size))
      clear hb4 hbA3
      go_wp2_with fail
      go_returns
      exact ⟨rfl, hbA4⟩
  · rw [decide_eq_false hvd] at K1
    generalize f.vars = v at *
    generalize f.nn = nn at *
    generalize f.top = tp at *
    clear h hvd ht
    obtain ⟨c1, c2⟩ := c
    go_enter Try.func16, Try.ntmps16
    go_wp2_with fail
    refine (awake13_any _).mono ?_
    rintro e w1 ⟨rfl, hb1⟩
    have hb1z := hb1.size
    simp only [World.size_alloc] at hb1z
    have x1_0 : w1.cell? ⟨w.heap.size, 0, none⟩ = some (.int .i64 v) := (below_at hb1 (w.heap.size) 0 (by first | (simp; done) | (simp; omega))).trans (by simp [go_sem])
    have x1_1 : w1.cell? ⟨w.heap.size, 1, none⟩ = some (.slice A nn cp) := (below_at hb1 (w.heap.size) 1 (by first | (simp; done) | (simp; omega))).trans (by simp [go_sem])
    have x1_2 : w1.cell? ⟨w.heap.size, 2, none⟩ = some (.int .i64 tp) := (below_at hb1 (w.heap.size) 2 (by first | (simp; done) | (simp; omega))).trans (by simp [go_sem])
    have x1_3 : w1.cell? ⟨w.heap.size + 1, 0, none⟩ = some (.int .i64 c1) := (below_at hb1 (w.heap.size + 1) 0 (by first | (simp; done) | (simp; omega))).trans (by simp [go_sem])
    have x1_4 : w1.cell? ⟨w.heap.size + 1, 1, none⟩ = some (.int .i64 c2) := (below_at hb1 (w.heap.size + 1) 1 (by first | (simp; done) | (simp; omega))).trans (by simp [go_sem])
    have hbA1 : Below w.heap.size w w1 := (by have z0 := Below.size hb1; (try simp only [World.size_alloc, World.size_setCell, World.size_drew, size_drewN'] at z0 ⊢; skip); repeat' (first | (with_reducible exact Below.refl _ _) | (with_reducible assumption) | (with_reducible refine Below.alloc ?_ ?_ _) | (with_reducible refine Below.drew ?_) | (with_reducible refine below_drewN ?_ _) | (with_reducible refine Below.setCell ?_ ?_ _) | (with_reducible refine Below.trans ?_ (Below.mono (by with_reducible assumption) ?_)) | omega | (simp only [World.size_alloc, World.size_setCell, World.size_drew, size_drewN']; omega) | go_size))
    clear hb1
    go_wp2_with fail
    refine (K1.out _ hbA1).mono ?_
    rintro e w2 ⟨rfl, hb2⟩
    have hb2z := hb2.size
    have x2_0 := (below_at hb2 (w.heap.size) 0 (by omega)).trans x1_0
    have x2_1 := (below_at hb2 (w.heap.size) 1 (by omega)).trans x1_1
    have x2_2 := (below_at hb2 (w.heap.size) 2 (by omega)).trans x1_2
    have x2_3 := (below_at hb2 (w.heap.size + 1) 0 (by omega)).trans x1_3
    have x2_4 := (below_at hb2 (w.heap.size + 1) 1 (by omega)).trans x1_4
    have hbA2 : Below w.heap.size w w2 := (by have z0 := Below.size hbA1; have z1 := Below.size hb2; (try simp only [World.size_alloc, World.size_setCell, World.size_drew, size_drewN'] at z0 z1 ⊢; skip); repeat' (first | (with_reducible exact Below.refl _ _) | (with_reducible assumption) | (with_reducible refine Below.alloc ?_ ?_ _) | (with_reducible refine Below.drew ?_) | (with_reducible refine below_drewN ?_ _) | (with_reducible refine Below.setCell ?_ ?_ _) | (with_reducible refine Below.trans ?_ (Below.mono (by with_reducible assumption) ?_)) | omega | (simp only [World.size_alloc, World.size_setCell, World.size_drew, size_drewN']; omega) | go_size))
    clear x1_0 x1_1 x1_2 x1_3 x1_4 hb2 hbA1
    go_wp2_with fail
    refine (awake13_any _).mono ?_
    rintro e w3 ⟨rfl, hb3⟩
    have hb3z := hb3.size
    have hbA3 : Below w.heap.size w w3 := (by have z0 := Below.size hbA2; have z1 := Below.size hb3; (try simp only [World.size_alloc, World.size_setCell, World.size_drew, size_drewN'] at z0 z1 ⊢; skip); repeat' (first | (with_reducible exact Below.refl _ _) | (with_reducible assumption) | (with_reducible refine Below.alloc ?_ ?_ _) | (with_reducible refine Below.drew ?_) | (with_reducible refine below_drewN ?_ _) | (with_reducible refine Below.setCell ?_ ?_ _) | (with_reducible refine Below.trans ?_ (Below.mono (by with_reducible assumption) ?_)) | omega | (simp only [World.size_alloc, World.size_setCell, World.size_drew, size_drewN']; omega) | go_size))
    clear hb3 hbA2
    go_wp2_with fail
    go_returns
    exact ⟨rfl, hbA3⟩
end
end Go.Proofs.Ytedopalmfakeaaa
