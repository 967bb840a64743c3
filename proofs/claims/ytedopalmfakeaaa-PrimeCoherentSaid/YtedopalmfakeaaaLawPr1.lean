/- Contracts of functions and lemmas, used by the proofs of the given statements. No condition beyond those that each lemma names. -/
import Derived.Test.YtedopalmfakeaaaPrV3
import Derived.Test.YtedopalmfakeaaaPrmN
import Derived.Test.YtedopalmfakeaaaJCubeW4
namespace Go.Proofs.Ytedopalmfakeaaa
open Go.RowKit Go.Sort
set_option linter.unusedSimpArgs false
set_option linter.unusedVariables false
set_option maxRecDepth 20000
/-! ## law13: PrimeHolds -/
theorem sup_val {f : FrR} (ok : FrOk f) (t : Nat) : f.fr.val (t &&& supF f.fr) = f.fr.val t := Frm.val_sup ok.fr fun a ha hm => by
  rw [Nat.testBit_and, (supF_bit f.fr a).2 ⟨ha, hm⟩, Bool.and_true]
theorem any_iff {l : List Cn} {t : Nat} : anyN l t = true ↔ ∃ p, p ∈ l ∧ hoN p t = true := by
  unfold anyN
  rw [List.any_eq_true]
theorem prm_any {S : Nat} {V : Nat → Bool} {s : List Cn} (hS : S < 16777216) (hV : ∀ t, V (t &&& S) = V t) (h : PrmS S V s) (t : Nat) : anyN s t = V t := by
  rw [Bool.eq_iff_iff, ← prime_holds hS hV t, any_iff]
  constructor
  · rintro ⟨p, h1, h2⟩; exact ⟨p, (h.2 p).1 h1, h2⟩
  · rintro ⟨p, h1, h2⟩; exact ⟨p, (h.2 p).2 h1, h2⟩
section
variable {w : World} {A : Option Addr} {c : Nat} {f : FrR}
theorem all13_7 {v : Nat} (h : FrI w A f) (ok : FrOk f) (hv : f.vars = v) (h7 : popc (supF f.fr) ≤ 7) :
    Calls Try.prog 53 #[fv (v : Int) A f.nn c f.top] w fun e w' => (∃ s, PrmS (supF f.fr) f.fr.val s ∧ s.length ≤ 1024 ∧ ∃ A c, e = .returned (.tuple #[.slice A s.length c, .nilIface]) ∧ OwC w' w.heap.size A c (s.map zc)) ∧ Below w.heap.size w w' := by
  refine (All_ok h ok hv (by omega)).mono ?_
  rintro e w' ⟨⟨s, hs, ⟨h1, _⟩ | ⟨h1, h2⟩⟩, hb⟩
  · have := hs.few (supF_lt ok hv).2 h7
    omega
  · exact ⟨⟨s, hs, h1, h2⟩, hb⟩
theorem irr13_7 {v : Nat} (h : FrI w A f) (ok : FrOk f) (hv : f.vars = v) (h7 : popc (supF f.fr) ≤ 7) :
    Calls Try.prog 54 #[fv (v : Int) A f.nn c f.top] w fun e w' => (∃ s, PrmS (supF f.fr) f.fr.val s ∧ s.length ≤ 1024 ∧ ∃ A c, e = .returned (.tuple #[.slice A (irrN s.length s).length c, .nilIface]) ∧ OwC w' w.heap.size A c ((irrN s.length s).map zc)) ∧ Below w.heap.size w w' := by
  refine (Irredundant_ok h ok hv (by omega)).mono ?_
  rintro e w' ⟨⟨s, hs, ⟨h1, _⟩ | ⟨h1, h2⟩⟩, hb⟩
  · have := hs.few (supF_lt ok hv).2 h7
    omega
  · exact ⟨⟨s, hs, h1, h2⟩, hb⟩
theorem irrN_len : ∀ (i : Nat) (l : List Cn), (irrN i l).length ≤ l.length
  | 0, l => Nat.le_refl _
  | i + 1, l => by
    rw [irrN]
    refine Nat.le_trans (irrN_len i _) ?_
    split
    · exact List.length_eraseIdx_le _ _
    · exact Nat.le_refl _
set_option maxHeartbeats 8000000 in
theorem primeHolds_law {st : Int} (h : FrI w A f) (ht : f.top ≤ 9223372036854775807) (hst : -9223372036854775808 ≤ st ∧ st ≤ 9223372036854775807) :
    Calls Try.prog 11 #[fv f.vars A f.nn c f.top, .int .i64 st] w fun e w' => e = .returned (.bool true) ∧ Below w.heap.size w w' := by
  have K1 := Lib.hid (fun W (hW : Below w.heap.size w W) => valid13_any (c := c) (h.below hW) ht)
  by_cases hvd : codeP f = 0 ∧ popc (supF f.fr) ≤ 7
  · have ok := (codeP_ok hvd.1).1
    obtain ⟨v, hv⟩ := ok.nat
    have v1 : v ≤ 24 := by have := ok.v1; omega
    have hS := (supF_lt ok hv).2
    have K2 := Lib.hid (fun W (hW : Below w.heap.size w W) => all13_7 (c := c) (h.below hW) ok hv hvd.2)
    have K3 := Lib.hid (fun W (hW : Below w.heap.size w W) => irr13_7 (c := c) (h.below hW) ok hv hvd.2)
    have K4 := Lib.hid (fun W (hW : Below w.heap.size w W) (t : Nat) (ht : t < 2 ^ v) => fvalue_ok (c := c) (t := t) (h.below hW) ok hv ht)
    have HV := Lib.hid (fun t => sup_val ok t)
    rw [decide_eq_true hvd] at K1
    rw [hv] at K1 ⊢
    generalize supF f.fr = S at *
    generalize f.fr.val = V at *
    generalize f.nn = nn at *
    generalize f.top = tp at *
    clear ok hv h hvd
    have hP : 2 ^ v ≤ 16777216 := Nat.pow_le_pow_right (n := 2) (by omega) v1
    have s1 := shl_eq (k := v) (by clear hP; omega)
    obtain ⟨P, hPe⟩ : ∃ P, 2 ^ v = P := ⟨_, rfl⟩
    rw [hPe] at s1 hP K4
    clear hPe
    go_enter Try.func11, Try.ntmps11
    go_wp2_with fail
    refine (awake13_any _).mono ?_
    rintro e w1 ⟨rfl, hb1⟩
    have hb1z := hb1.size
    simp only [World.size_alloc] at hb1z
    have x0 : w1.cell? ⟨w.heap.size, 0, none⟩ = some (.int .i64 (v : Int)) := (below_at hb1 w.heap.size 0 (by simp)).trans (by simp [go_sem])
    have x1 : w1.cell? ⟨w.heap.size, 1, none⟩ = some (.slice A nn c) := (below_at hb1 w.heap.size 1 (by simp)).trans (by simp [go_sem])
    have x2 : w1.cell? ⟨w.heap.size, 2, none⟩ = some (.int .i64 tp) := (below_at hb1 w.heap.size 2 (by simp)).trans (by simp [go_sem])
    have hbA : Below w.heap.size w w1 := (by have z0 := Below.size hb1; (try simp only [World.size_alloc, World.size_setCell, World.size_drew, size_drewN'] at z0 ⊢; skip); repeat' (first | (with_reducible exact Below.refl _ _) | (with_reducible assumption) | (with_reducible refine Below.alloc ?_ ?_ _) | (with_reducible refine Below.drew ?_) | (with_reducible refine below_drewN ?_ _) | (with_reducible refine Below.setCell ?_ ?_ _) | (with_reducible refine Below.trans ?_ (Below.mono (by with_reducible assumption) ?_)) | omega | (simp only [World.size_alloc, World.size_setCell, World.size_drew, size_drewN']; omega) | go_size))
    clear hb1
    go_wp2_with fail
    refine (K1.out _ hbA).mono ?_
    rintro e w2 ⟨rfl, hb2⟩
    have y0 := (below_at hb2 w.heap.size 0 (by omega)).trans x0
    have y1 := (below_at hb2 w.heap.size 1 (by omega)).trans x1
    have y2 := (below_at hb2 w.heap.size 2 (by omega)).trans x2
    have hbB : Below w.heap.size w w2 := (by have z0 := Below.size hbA; have z1 := Below.size hb2; (try simp only [World.size_alloc, World.size_setCell, World.size_drew, size_drewN'] at z0 z1 ⊢; skip); repeat' (first | (with_reducible exact Below.refl _ _) | (with_reducible assumption) | (with_reducible refine Below.alloc ?_ ?_ _) | (with_reducible refine Below.drew ?_) | (with_reducible refine below_drewN ?_ _) | (with_reducible refine Below.setCell ?_ ?_ _) | (with_reducible refine Below.trans ?_ (Below.mono (by with_reducible assumption) ?_)) | omega | (simp only [World.size_alloc, World.size_setCell, World.size_drew, size_drewN']; omega) | go_size))
    have hb2z := hb2.size
    clear x0 x1 x2 hbA hb2
    by_cases hneg : st < 0
    · go_wp2_with fail
      refine (awake13_any _).mono ?_
      rintro e w3 ⟨rfl, hb3⟩
      go_wp2_with fail
      go_returns
      exact ⟨rfl, (by have z0 := Below.size hbB; have z1 := Below.size hb3; (try simp only [World.size_alloc, World.size_setCell, World.size_drew, size_drewN'] at z0 z1 ⊢; skip); repeat' (first | (with_reducible exact Below.refl _ _) | (with_reducible assumption) | (with_reducible refine Below.alloc ?_ ?_ _) | (with_reducible refine Below.drew ?_) | (with_reducible refine below_drewN ?_ _) | (with_reducible refine Below.setCell ?_ ?_ _) | (with_reducible refine Below.trans ?_ (Below.mono (by with_reducible assumption) ?_)) | omega | (simp only [World.size_alloc, World.size_setCell, World.size_drew, size_drewN']; omega) | go_size))⟩
    · by_cases hbig : (P : Int) ≤ st
      · go_wp2_with fail
        refine (awake13_any _).mono ?_
        rintro e w3 ⟨rfl, hb3⟩
        go_wp2_with fail
        go_returns
        exact ⟨rfl, (by have z0 := Below.size hbB; have z1 := Below.size hb3; (try simp only [World.size_alloc, World.size_setCell, World.size_drew, size_drewN'] at z0 z1 ⊢; skip); repeat' (first | (with_reducible exact Below.refl _ _) | (with_reducible assumption) | (with_reducible refine Below.alloc ?_ ?_ _) | (with_reducible refine Below.drew ?_) | (with_reducible refine below_drewN ?_ _) | (with_reducible refine Below.setCell ?_ ?_ _) | (with_reducible refine Below.trans ?_ (Below.mono (by with_reducible assumption) ?_)) | omega | (simp only [World.size_alloc, World.size_setCell, World.size_drew, size_drewN']; omega) | go_size))⟩
      · obtain ⟨t, rfl⟩ : ∃ t : Nat, st = t := ⟨st.toNat, by omega⟩
        have htP : t < P := by omega
        have ht24 : t < 16777216 := by omega
        have K5 := Lib.hid (fun W (hW : Below w.heap.size w W) => K4.out W hW t htP)
        have HV1 : Hid (∀ s, PrmS S V s → anyN s t = V t ∧ anyN (irrN s.length s) t = V t) := fun s hs => by
          have h1 := prm_any hS HV.out hs t
          exact ⟨h1, by rw [irr_holds (fun d hd => (hs.ok hd).1) ht24, h1]⟩
        generalize V t = vt at *
        clear K4 HV hneg hbig
        go_wp2_with fail
        refine (K2.out _ hbB).mono ?_
        rintro e w3 ⟨⟨s, hs, hl, A3, c3, rfl, own3⟩, hb3⟩
        have hb3z := hb3.size
        have z0 := (below_at hb3 w.heap.size 0 (by omega)).trans y0
        have z1 := (below_at hb3 w.heap.size 1 (by omega)).trans y1
        have z2 := (below_at hb3 w.heap.size 2 (by omega)).trans y2
        have hbC : Below w.heap.size w w3 := (by have z0 := Below.size hbB; have z1 := Below.size hb3; (try simp only [World.size_alloc, World.size_setCell, World.size_drew, size_drewN'] at z0 z1 ⊢; skip); repeat' (first | (with_reducible exact Below.refl _ _) | (with_reducible assumption) | (with_reducible refine Below.alloc ?_ ?_ _) | (with_reducible refine Below.drew ?_) | (with_reducible refine below_drewN ?_ _) | (with_reducible refine Below.setCell ?_ ?_ _) | (with_reducible refine Below.trans ?_ (Below.mono (by with_reducible assumption) ?_)) | omega | (simp only [World.size_alloc, World.size_setCell, World.size_drew, size_drewN']; omega) | go_size))
        clear y0 y1 y2 hbB hb3
        have HS := Lib.hid hs
        have HA1 : Hid (anyN s t = vt) := (HV1.out s hs).1
        clear hs
        go_wp2_with fail
        refine (K3.out _ hbC).mono ?_
        rintro e w4 ⟨⟨s2, hs2, hl2, A4, c4, rfl, own4⟩, hb4⟩
        have hb4z := hb4.size
        have y0 := (below_at hb4 w.heap.size 0 (by omega)).trans z0
        have y1 := (below_at hb4 w.heap.size 1 (by omega)).trans z1
        have y2 := (below_at hb4 w.heap.size 2 (by omega)).trans z2
        have hbD : Below w.heap.size w w4 := (by have z0 := Below.size hbC; have z1 := Below.size hb4; (try simp only [World.size_alloc, World.size_setCell, World.size_drew, size_drewN'] at z0 z1 ⊢; skip); repeat' (first | (with_reducible exact Below.refl _ _) | (with_reducible assumption) | (with_reducible refine Below.alloc ?_ ?_ _) | (with_reducible refine Below.drew ?_) | (with_reducible refine below_drewN ?_ _) | (with_reducible refine Below.setCell ?_ ?_ _) | (with_reducible refine Below.trans ?_ (Below.mono (by with_reducible assumption) ?_)) | omega | (simp only [World.size_alloc, World.size_setCell, World.size_drew, size_drewN']; omega) | go_size))
        have own3' := own3.below hb4
        have HA2 : Hid (anyN (irrN s2.length s2) t = vt) := (HV1.out s2 hs2).2
        have HOK2 : Hid (∀ d, d ∈ irrN s2.length s2 → okN d) := fun d hd => (hs2.ok (irrN_mem hd)).1
        have hil := irrN_len s2.length s2
        generalize irrN s2.length s2 = I2 at *
        clear z0 z1 z2 hbC hb4 hs2 own3
        go_wp2_with fail
        refine (K5.out _ hbD).mono ?_
        rintro e w5 ⟨rfl, hb5⟩
        have hb5z := hb5.size
        have r3 := (own3'.below hb5).rd
        have own4' := own4.below hb5
        have hbE : Below w.heap.size w w5 := (by have z0 := Below.size hbD; have z1 := Below.size hb5; (try simp only [World.size_alloc, World.size_setCell, World.size_drew, size_drewN'] at z0 z1 ⊢; skip); repeat' (first | (with_reducible exact Below.refl _ _) | (with_reducible assumption) | (with_reducible refine Below.alloc ?_ ?_ _) | (with_reducible refine Below.drew ?_) | (with_reducible refine below_drewN ?_ _) | (with_reducible refine Below.setCell ?_ ?_ _) | (with_reducible refine Below.trans ?_ (Below.mono (by with_reducible assumption) ?_)) | omega | (simp only [World.size_alloc, World.size_setCell, World.size_drew, size_drewN']; omega) | go_size))
        clear own3' own4 y0 y1 y2 hbD hb5
        go_wp2_with fail
        refine (in13_any r3 (fun d hd => (HS.out.ok hd).1) ht24 (by omega)).mono ?_
        rintro e w6 ⟨rfl, hb6⟩
        have hb6z := hb6.size
        have r4 := (own4'.below hb6).rd
        have hbF : Below w.heap.size w w6 := (by have z0 := Below.size hbE; have z1 := Below.size hb6; (try simp only [World.size_alloc, World.size_setCell, World.size_drew, size_drewN'] at z0 z1 ⊢; skip); repeat' (first | (with_reducible exact Below.refl _ _) | (with_reducible assumption) | (with_reducible refine Below.alloc ?_ ?_ _) | (with_reducible refine Below.drew ?_) | (with_reducible refine below_drewN ?_ _) | (with_reducible refine Below.setCell ?_ ?_ _) | (with_reducible refine Below.trans ?_ (Below.mono (by with_reducible assumption) ?_)) | omega | (simp only [World.size_alloc, World.size_setCell, World.size_drew, size_drewN']; omega) | go_size))
        rw [HA1.out]
        clear own4' r3 hbE hb6
        go_wp2_with fail
        refine (in13_any r4 HOK2.out ht24 (by omega)).mono ?_
        rintro e w7 ⟨rfl, hb7⟩
        rw [HA2.out]
        clear r4
        go_wp2_with fail
        go_returns
        exact ⟨by simp, (by have z0 := Below.size hbF; have z1 := Below.size hb7; (try simp only [World.size_alloc, World.size_setCell, World.size_drew, size_drewN'] at z0 z1 ⊢; skip); repeat' (first | (with_reducible exact Below.refl _ _) | (with_reducible assumption) | (with_reducible refine Below.alloc ?_ ?_ _) | (with_reducible refine Below.drew ?_) | (with_reducible refine below_drewN ?_ _) | (with_reducible refine Below.setCell ?_ ?_ _) | (with_reducible refine Below.trans ?_ (Below.mono (by with_reducible assumption) ?_)) | omega | (simp only [World.size_alloc, World.size_setCell, World.size_drew, size_drewN']; omega) | go_size))⟩
  · rw [decide_eq_false hvd] at K1
    generalize f.vars = v at *
    generalize f.nn = nn at *
    generalize f.top = tp at *
    clear h hvd
    go_enter Try.func11, Try.ntmps11
    go_wp2_with fail
    refine (awake13_any _).mono ?_
    rintro e w1 ⟨rfl, hb1⟩
    have hb1z := hb1.size
    simp only [World.size_alloc] at hb1z
    have x0 : w1.cell? ⟨w.heap.size, 0, none⟩ = some (.int .i64 v) := (below_at hb1 w.heap.size 0 (by simp)).trans (by simp [go_sem])
    have x1 : w1.cell? ⟨w.heap.size, 1, none⟩ = some (.slice A nn c) := (below_at hb1 w.heap.size 1 (by simp)).trans (by simp [go_sem])
    have x2 : w1.cell? ⟨w.heap.size, 2, none⟩ = some (.int .i64 tp) := (below_at hb1 w.heap.size 2 (by simp)).trans (by simp [go_sem])
    have hbA : Below w.heap.size w w1 := (by have z0 := Below.size hb1; (try simp only [World.size_alloc, World.size_setCell, World.size_drew, size_drewN'] at z0 ⊢; skip); repeat' (first | (with_reducible exact Below.refl _ _) | (with_reducible assumption) | (with_reducible refine Below.alloc ?_ ?_ _) | (with_reducible refine Below.drew ?_) | (with_reducible refine below_drewN ?_ _) | (with_reducible refine Below.setCell ?_ ?_ _) | (with_reducible refine Below.trans ?_ (Below.mono (by with_reducible assumption) ?_)) | omega | (simp only [World.size_alloc, World.size_setCell, World.size_drew, size_drewN']; omega) | go_size))
    clear hb1
    go_wp2_with fail
    refine (K1.out _ hbA).mono ?_
    rintro e w2 ⟨rfl, hb2⟩
    clear x0 x1 x2
    go_wp2_with fail
    refine (awake13_any _).mono ?_
    rintro e w3 ⟨rfl, hb3⟩
    go_wp2_with fail
    go_returns
    exact ⟨rfl, (by have z0 := Below.size hbA; have z1 := Below.size hb2; have z2 := Below.size hb3; (try simp only [World.size_alloc, World.size_setCell, World.size_drew, size_drewN'] at z0 z1 z2 ⊢; skip); repeat' (first | (with_reducible exact Below.refl _ _) | (with_reducible assumption) | (with_reducible refine Below.alloc ?_ ?_ _) | (with_reducible refine Below.drew ?_) | (with_reducible refine below_drewN ?_ _) | (with_reducible refine Below.setCell ?_ ?_ _) | (with_reducible refine Below.trans ?_ (Below.mono (by with_reducible assumption) ?_)) | omega | (simp only [World.size_alloc, World.size_setCell, World.size_drew, size_drewN']; omega) | go_size))⟩
end
end Go.Proofs.Ytedopalmfakeaaa
