/- Contracts of functions and lemmas, used by the proofs of the given statements. No condition beyond those that each lemma names. -/
import Derived.Test.YtedopalmfakeaaaLawPr1
namespace Go.Proofs.Ytedopalmfakeaaa
open Go.RowKit Go.Sort
set_option linter.unusedSimpArgs false
set_option linter.unusedVariables false
set_option maxRecDepth 20000
/-! ## law13: PrimeCoherent -/
section
variable {w : World} {A : Option Addr} {c : Nat} {f : FrR}
theorem coh_zero {S : Nat} {s : List Cn} (ok : FrOk f) (hv : ∀ k, k < f.nn → f.kd k ≠ 1 ∧ f.kd k ≠ 5) (h : PrmS S f.fr.val s) {p : Cn} (hp : p ∈ s) : p.2 = 0 := by
  refine prime_coherent (fun t u htu hV => ?_) ((h.2 p).1 hp)
  refine Frm.val_mono ok.fr (fun i hi => ?_) (fun a _ => htu a) hV
  have h1 := ok.kd i hi
  have h2 := hv i hi
  show (f.kd i).toNat ≠ 1 ∧ (f.kd i).toNat ≤ 4
  omega
set_option maxHeartbeats 8000000 in
theorem primeCoherent_law (h : FrI w A f) (ht : f.top ≤ 9223372036854775807) :
    Calls Try.prog 12 #[fv f.vars A f.nn c f.top] w fun e w' => e = .returned (.bool true) ∧ Below w.heap.size w w' := by
  have K1 := Lib.hid (fun W (hW : Below w.heap.size w W) => valid13_any (c := c) (h.below hW) ht)
  by_cases hvd : codeP f = 0 ∧ popc (supF f.fr) ≤ 7
  · have ok := (codeP_ok hvd.1).1
    obtain ⟨v, hv⟩ := ok.nat
    have v1 : v ≤ 24 := by have := ok.v1; omega
    have n1 := ok.n1
    have K2 := Lib.hid (fun W (hW : Below w.heap.size w W) => all13_7 (c := c) (h.below hW) ok hv hvd.2)
    have HZ := Lib.hid (fun (hk : ∀ k, k < f.nn → f.kd k ≠ 1 ∧ f.kd k ≠ 5) s (hs : PrmS (supF f.fr) f.fr.val s) p (hp : p ∈ s) => coh_zero ok hk hs hp)
    have HN := Lib.hid (fun k (hk : k < f.nn) => h.at_ hk)
    rw [decide_eq_true hvd] at K1
    rw [hv] at K1 ⊢
    generalize supF f.fr = S at *
    generalize f.fr.val = V at *
    generalize f.nn = nn at *
    generalize f.kd = kd at *
    generalize f.top = tp at *
    clear ok hv h hvd
    go_enter Try.func12, Try.ntmps12
    go_wp2_with fail
    refine (awake13_any _).mono ?_
    rintro e w1 ⟨rfl, hb1⟩
    have hb1z := hb1.size
    simp only [World.size_alloc] at hb1z
    have x0 : w1.cell? ⟨w.heap.size, 0, none⟩ = some (.int .i64 (v : Int)) := (below_at hb1 w.heap.size 0 (by simp)).trans (by simp [go_sem])
    have x1 : w1.cell? ⟨w.heap.size, 1, none⟩ = some (.slice A nn c) := (below_at hb1 w.heap.size 1 (by simp)).trans (by simp [go_sem])
    have x2 : w1.cell? ⟨w.heap.size, 2, none⟩ = some (.int .i64 tp) := (below_at hb1 w.heap.size 2 (by simp)).trans (by simp [go_sem])
    have hbA : Below w.heap.size w w1 := (by have z0 := Below.size hb1; (try simp only [World.size_alloc, World.size_setCell, World.size_drew, size_drewN'] at z0 ⊢; skip); repeat' (first | (with_reducible exact Below.refl _ _) | (with_reducible assumption) | (with_reducible refine Below.alloc ?_ ?_ _) | (with_reducible refine Below.drew ?_) | (with_reducible refine below_drewN ?_ _) | (with_reducible refine Below.setCell ?_ ?_ _) | (with_reducible refine Below.trans ?_ (Below.mono (by with_reducible assumption) ?_)) | omega | (simp only [World.size_alloc, World.size_setCell, World.size_drew, size_drewN']; omega) | go_size))
    clear hb1
    go_wp2_with fail
    refine (K1.out _ hbA).mono ?_
    rintro e w2 ⟨rfl, hb2⟩
    have y0 := (below_at hb2 w.heap.size 0 (by omega)).trans x0
    have y1 := (below_at hb2 w.heap.size 1 (by omega)).trans x1
    have y2 := (below_at hb2 w.heap.size 2 (by omega)).trans x2
    have hbB : Below w.heap.size w w2 := (by have z0 := Below.size hbA; have z1 := Below.size hb2; (try simp only [World.size_alloc, World.size_setCell, World.size_drew, size_drewN'] at z0 z1 ⊢; skip); repeat' (first | (with_reducible exact Below.refl _ _) | (with_reducible assumption) | (with_reducible refine Below.alloc ?_ ?_ _) | (with_reducible refine Below.drew ?_) | (with_reducible refine below_drewN ?_ _) | (with_reducible refine Below.setCell ?_ ?_ _) | (with_reducible refine Below.trans ?_ (Below.mono (by with_reducible assumption) ?_)) | omega | (simp only [World.size_alloc, World.size_setCell, World.size_drew, size_drewN']; omega) | go_size))
    have hb2z := hb2.size
    clear x0 x1 x2 hbA hb2
    go_wp2_with fail
    go_loopw [3] (fun i wr => ∃ k : Nat, k ≤ nn ∧ i = .int .i64 k ∧ (∀ j, j < k → kd j ≠ 1 ∧ kd j ≠ 5) ∧ wr = w2) (fun i _ => nn - (intOf i).toNat)
    case atStart => exact ⟨0, Nat.zero_le _, rfl, fun j hj => by omega, rfl⟩
    case round =>
      obtain ⟨k, hk, rfl, hkd, rfl⟩ := hrel
      have HKD := Lib.hid hkd
      clear hkd
      by_cases hlt : k < nn
      · obtain ⟨b, off, A1, c1, rfl, hbl, ck, -, -, -⟩ := HN.out k hlt
        have ck2 := (below_at hbB b (off + k * 3) hbl).trans ck
        have ik1 : (0 : Int) ≤ (k : Int) := by omega
        have ik2 : (k : Int) < (nn : Int) := by omega
        by_cases h1 : kd k = 1
        · rw [h1] at ck ck2
          go_wp2
          go_returns
          exact ⟨rfl, hbB⟩
        · by_cases h5 : kd k = 5
          · rw [h5] at ck ck2
            go_wp2
            go_returns
            exact ⟨rfl, hbB⟩
          · have HK2 : Hid (∀ j, j < k + 1 → kd j ≠ 1 ∧ kd j ≠ 5) := fun j hj => by
              rcases Nat.lt_or_ge j k with h | h
              · exact HKD.out j h
              · have : j = k := by omega
                subst this
                exact ⟨h1, h5⟩
            have e1 : (kd k == 1) = false := by simpa using h1
            have e5 : (kd k == 5) = false := by simpa using h5
            generalize kd k = q at *
            clear h1 h5
            go_wp2
            go_roundw
            case rel => exact ⟨k + 1, by omega, by go_num, HK2.out, (by first | trivial | rfl)⟩
            case measure => simp [intOf]; omega
      · have HKN : Hid (∀ s, PrmS S V s → ∀ p, p ∈ s → p.2 = 0) := fun s hs p hp => HZ.out (fun j hj => HKD.out j (by omega)) s hs p hp
        clear HN HZ HKD
        go_wp2_with fail
        refine (K2.out _ hbB).mono ?_
        rintro e w3 ⟨⟨s, hs, hl, A3, c3, rfl, own3⟩, hb3⟩
        have HS : Hid (∀ p, p ∈ s → p.2 = 0) := HKN.out s hs
        have hb3z := hb3.size
        have rds := own3.rd
        have hbC : Below w.heap.size w w3 := (by have z0 := Below.size hbB; have z1 := Below.size hb3; (try simp only [World.size_alloc, World.size_setCell, World.size_drew, size_drewN'] at z0 z1 ⊢; skip); repeat' (first | (with_reducible exact Below.refl _ _) | (with_reducible assumption) | (with_reducible refine Below.alloc ?_ ?_ _) | (with_reducible refine Below.drew ?_) | (with_reducible refine below_drewN ?_ _) | (with_reducible refine Below.setCell ?_ ?_ _) | (with_reducible refine Below.trans ?_ (Below.mono (by with_reducible assumption) ?_)) | omega | (simp only [World.size_alloc, World.size_setCell, World.size_drew, size_drewN']; omega) | go_size))
        clear hs HKN own3 y0 y1 y2 hb3
        go_wp2_with fail
        go_loopw [6] (fun i wr => ∃ k : Nat, k ≤ s.length ∧ i = .int .i64 k ∧ wr = w3) (fun i _ => s.length - (intOf i).toNat)
        case atStart => exact ⟨0, Nat.zero_le _, rfl, rfl⟩
        case round =>
          obtain ⟨m, hm, rfl, rfl⟩ := hrel
          by_cases hml : m < s.length
          · obtain ⟨b, off, rfl, hbb, z1, z2⟩ := rds.at_ (k := m) (c := zc s[m]) (by simp [hml])
            have hz := HS.out _ (List.getElem_mem hml)
            have z3 : wr.cell? ⟨b, off + m * 2 + 1, none⟩ = some (.int .i64 0) := by
              rw [z2]
              show some (Value.int .i64 ((s[m].2 : Nat) : Int)) = _
              rw [hz]; rfl
            clear z2 hz
            have im1 : (0 : Int) ≤ (m : Int) := by omega
            have im2 : (m : Int) < (s.length : Int) := by omega
            go_wp2
            go_roundw
            case rel => exact ⟨m + 1, by omega, by go_num, (by first | trivial | rfl)⟩
            case measure => simp [intOf]; omega
          · go_wp2
            go_returns
            exact ⟨rfl, hbC⟩
  · rw [decide_eq_false hvd] at K1
    generalize f.vars = v at *
    generalize f.nn = nn at *
    generalize f.top = tp at *
    clear h hvd
    go_enter Try.func12, Try.ntmps12
    go_wp2_with fail
    refine (awake13_any _).mono ?_
    rintro e w1 ⟨rfl, hb1⟩
    have hb1z := hb1.size
    simp only [World.size_alloc] at hb1z
    have x0 : w1.cell? ⟨w.heap.size, 0, none⟩ = some (.int .i64 v) := (below_at hb1 w.heap.size 0 (by simp)).trans (by simp [go_sem])
    have x1 : w1.cell? ⟨w.heap.size, 1, none⟩ = some (.slice A nn c) := (below_at hb1 w.heap.size 1 (by simp)).trans (by simp [go_sem])
    have x2 : w1.cell? ⟨w.heap.size, 2, none⟩ = some (.int .i64 tp) := (below_at hb1 w.heap.size 2 (by simp)).trans (by simp [go_sem])
    have hbA : Below w.heap.size w w1 := (by have z0 := Below.size hb1; (try simp only [World.size_alloc, World.size_setCell, World.size_drew, size_drewN'] at z0 ⊢; skip); repeat' (first | (with_reducible exact Below.refl _ _) | (with_reducible assumption) | (with_reducible refine Below.alloc ?_ ?_ _) | (with_reducible refine Below.drew ?_) | (with_reducible refine below_drewN ?_ _) | (with_reducible refine Below.setCell ?_ ?_ _) | (with_reducible refine Below.trans ?_ (Below.mono (by with_reducible assumption) ?_)) | omega | (simp only [World.size_alloc, World.size_setCell, World.size_drew, size_drewN']; omega) | go_size))
    clear hb1
    go_wp2_with fail
    refine (K1.out _ hbA).mono ?_
    rintro e w2 ⟨rfl, hb2⟩
    clear x0 x1 x2
    go_wp2_with fail
    refine (awake13_any _).mono ?_
    rintro e w3 ⟨rfl, hb3⟩
    go_wp2_with fail
    go_returns
    exact ⟨rfl, (by have z0 := Below.size hbA; have z1 := Below.size hb2; have z2 := Below.size hb3; (try simp only [World.size_alloc, World.size_setCell, World.size_drew, size_drewN'] at z0 z1 z2 ⊢; skip); repeat' (first | (with_reducible exact Below.refl _ _) | (with_reducible assumption) | (with_reducible refine Below.alloc ?_ ?_ _) | (with_reducible refine Below.drew ?_) | (with_reducible refine below_drewN ?_ _) | (with_reducible refine Below.setCell ?_ ?_ _) | (with_reducible refine Below.trans ?_ (Below.mono (by with_reducible assumption) ?_)) | omega | (simp only [World.size_alloc, World.size_setCell, World.size_drew, size_drewN']; omega) | go_size))⟩
end
end Go.Proofs.Ytedopalmfakeaaa
