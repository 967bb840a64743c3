/- Contracts of functions and lemmas, used by the proofs of the given statements. No condition beyond those that each lemma names. -/
import Derived.Test.YtedopalmfakeaaaPrX3
namespace Go.Proofs.Ytedopalmfakeaaa
open Go.RowKit Go.Sort
set_option linter.unusedSimpArgs false
set_option linter.unusedVariables false
set_option maxRecDepth 20000
/-! ## law13: the reference's Implicant, Prime -/
attribute [local irreducible] pop popc
section
variable {w : World} {A : Option Addr} {cp v : Nat} {f : FrR} {c : Cn} {I : Cn → Bool}
set_option maxHeartbeats 4000000 in
theorem rimp13_ok (h : FrI w A f) (ok : FrOk f) (hv : f.vars = v) (h7 : popc (supF f.fr) ≤ 12) (hc : okN c) (hI : ∀ c, I c = true ↔ impN (supF f.fr) f.fr.val (onS (supF f.fr) c)) :
    Calls Try.prog 68 #[fv (v : Int) A f.nn cp f.top, cbv (zc c)] w fun e w' => e = .returned (.bool (I c)) ∧ Below w.heap.size w w' := by
  have v1 : v ≤ 24 := by have := ok.v1; omega
  have hSv := (supF_lt ok hv).1
  have K1 := Lib.hid (fun W (hW : Below w.heap.size w W) => rstates_ok (cp := cp) (h.below hW) ok hv h7)
  have K2 := Lib.hid (fun W (hW : Below w.heap.size w W) t ht => rval13_ok (cp := cp) (t := t) (h.below hW) ok hv ht)
  have HI : Hid ((∀ t, t ∈ stsN (supF f.fr) v → f.fr.val (stPut c t) = true) ↔ I c = true) := (rimp_S (fun t => Frm.val_sup ok.fr fun a ha hm => by
    rw [Nat.testBit_and, (supF_bit f.fr a).2 ⟨ha, hm⟩, Bool.and_true]) (fun i hi => by
      have := (supF_bit f.fr i).1 hi
      rw [vlF_nat f hv] at this
      exact this.1) hc).trans (hI c).symm
  have HLT : Hid (∀ t, t ∈ stsN (supF f.fr) v → t < 16777216) := fun t ht => sts_lt v1 ht
  have hlen := sts_room (S := supF f.fr) (k := v) h7 v1
  generalize stsN (supF f.fr) v = L at *
  generalize supF f.fr = S at *
  generalize f.fr.val = V at *
  generalize f.nn = nn at *
  generalize f.top = tp at *
  have hc1 := hc.1
  have hc2 := hc.2.1
  have HP := Lib.hid (fun t ht => stPut_lt (t := t) hc ht)
  have HPd : Hid (∀ t, stPut c t = ndiff t c.2 ||| c.1) := fun t => rfl
  generalize I c = b at *
  obtain ⟨c1, c2⟩ := c
  simp only at hc1 hc2 HPd
  clear h ok hv hSv h7 hI hc
  go_enter Try.func68, Try.ntmps68
  go_wp2_with fail
  refine (K1.out _ (by (skip); repeat' (first | (with_reducible exact Below.refl _ _) | (with_reducible assumption) | (with_reducible refine Below.alloc ?_ ?_ _) | (with_reducible refine Below.drew ?_) | (with_reducible refine below_drewN ?_ _) | (with_reducible refine Below.setCell ?_ ?_ _) | (with_reducible refine Below.trans ?_ (Below.mono (by with_reducible assumption) ?_)) | omega | (simp only [World.size_alloc, World.size_setCell, World.size_drew, size_drewN']; omega) | go_size))).mono ?_
  rintro e w1 ⟨⟨A1, cl, rfl, own1⟩, hb1⟩
  have hb1z := hb1.size
  simp only [World.size_alloc] at hb1z
  have z0 : w1.cell? ⟨w.heap.size, 0, none⟩ = some (.int .i64 (v : Int)) := (below_at hb1 w.heap.size 0 (by simp; omega)).trans (by simp [go_sem])
  have z1 : w1.cell? ⟨w.heap.size, 1, none⟩ = some (.slice A nn cp) := (below_at hb1 w.heap.size 1 (by simp; omega)).trans (by simp [go_sem])
  have z2 : w1.cell? ⟨w.heap.size, 2, none⟩ = some (.int .i64 tp) := (below_at hb1 w.heap.size 2 (by simp; omega)).trans (by simp [go_sem])
  have x0 : w1.cell? ⟨w.heap.size + 1, 0, none⟩ = some (.int .i64 (c1 : Int)) := (below_at hb1 (w.heap.size + 1) 0 (by simp)).trans (by simp [go_sem])
  have x1 : w1.cell? ⟨w.heap.size + 1, 1, none⟩ = some (.int .i64 (c2 : Int)) := (below_at hb1 (w.heap.size + 1) 1 (by simp)).trans (by simp [go_sem])
  have hbA : Below w.heap.size w w1 := (by have z0 := Below.size hb1; (try simp only [World.size_alloc, World.size_setCell, World.size_drew, size_drewN'] at z0 ⊢; skip); repeat' (first | (with_reducible exact Below.refl _ _) | (with_reducible assumption) | (with_reducible refine Below.alloc ?_ ?_ _) | (with_reducible refine Below.drew ?_) | (with_reducible refine below_drewN ?_ _) | (with_reducible refine Below.setCell ?_ ?_ _) | (with_reducible refine Below.trans ?_ (Below.mono (by with_reducible assumption) ?_)) | omega | (simp only [World.size_alloc, World.size_setCell, World.size_drew, size_drewN']; omega) | go_size))
  have rds := own1.rd
  clear hb1 own1
  go_wp2_with fail
  go_loopw [6] (fun i wr => ∃ k : Nat, k ≤ L.length ∧ i = .int .i64 k ∧ (∀ j (hj : j < L.length), j < k → V (stPut (c1, c2) L[j]) = true) ∧ Below w1.heap.size w1 wr) (fun i _ => L.length - (intOf i).toNat)
  case atStart => exact ⟨0, Nat.zero_le _, rfl, fun j hj h0 => by omega, Below.refl _ _⟩
  case round =>
    obtain ⟨k, hk, rfl, hall, hb⟩ := hrel
    have HA := Lib.hid hall
    clear hall
    obtain ⟨wo, rfl⟩ : ∃ wo : World, wo = wr := ⟨_, rfl⟩
    have hbz := hb.size
    have y0 := (below_at hb (w.heap.size + 1) 0 (by omega)).trans x0
    have y1 := (below_at hb (w.heap.size + 1) 1 (by omega)).trans x1
    have q0 := (below_at hb w.heap.size 0 (by omega)).trans z0
    have q1 := (below_at hb w.heap.size 1 (by omega)).trans z1
    have q2 := (below_at hb w.heap.size 2 (by omega)).trans z2
    have hbW : Below w.heap.size w wo := hbA.trans (hb.mono (by omega))
    by_cases hlt : k < L.length
    · obtain ⟨g, off, rfl, hgl, cq⟩ := rds.later hb hlt
      rw [lsJ_at hlt] at cq
      have hx := HLT.out _ (List.getElem_mem hlt)
      have hy := HP.out L[k] hx
      have HN : Hid (V (stPut (c1, c2) L[k]) = false → b = false) := fun h0 => by
        cases b
        · rfl
        · have := HI.out.2 rfl _ (List.getElem_mem hlt)
          rw [h0] at this; exact this.symm
      have HY : Hid (V (stPut (c1, c2) L[k]) = true → ∀ j (hj : j < L.length), j < k + 1 → V (stPut (c1, c2) L[j]) = true) := fun h0 j hj h1 => by
        rcases Nat.lt_or_ge j k with h | h
        · exact HA.out j hj h
        · have : j = k := by omega
          subst this
          exact h0
      rw [HPd.out] at hy HN HY
      generalize L[k] = t at *
      have e1 := i64_andNot t c2 (Nat.lt_trans hx (by decide)) (Nat.lt_trans hc2 (by decide))
      have e2 := i64_or (ndiff t c2) c1 (Nat.lt_trans (ndiff_lt24 hx) (by decide)) (Nat.lt_trans hc1 (by decide))
      generalize ndiff t c2 ||| c1 = y at *
      generalize ndiff t c2 = z at *
      have K3 := Lib.hid (fun W (hW : Below wo.heap.size wo W) => K2.out W (hbW.trans (hW.mono (by omega))) y hy)
      have f0 := fun u : Sub wo => u.cell y0
      have f1 := fun u : Sub wo => u.cell y1
      have f2 := fun u : Sub wo => u.cell cq
      have f3 := fun u : Sub wo => u.cell q0
      have f4 := fun u : Sub wo => u.cell q1
      have f5 := fun u : Sub wo => u.cell q2
      clear hx hy
      cases hV : V y
      · rw [hV] at K3
        have HB := Lib.hid (HN.out hV)
        clear HN HY hV HA HI K2 K1
        go_wp2_with fail
        ((refine wp_region_quiet_bel (by kernel_rfl) (by kernel_rfl) ?_); (repeat (go_big_quiet_step ((go_at_call 100; with_reducible exact Calls.quiet_bel (K3.out _ (Sub.bel _)))))); (refine wpQuiet_nil ?_); rintro w3 ⟨⟨_, hb3⟩, rfl⟩; (try dsimp only))
        go_wp2_with fail
        go_returns
        exact ⟨by rw [HB.out]; rfl, (by have z0 := Below.size hbW; have z1 := Below.size hb3; (try simp only [World.size_alloc, World.size_setCell, World.size_drew, size_drewN'] at z0 z1 ⊢; skip); repeat' (first | (with_reducible exact Below.refl _ _) | (with_reducible assumption) | (with_reducible refine Below.alloc ?_ ?_ _) | (with_reducible refine Below.drew ?_) | (with_reducible refine below_drewN ?_ _) | (with_reducible refine Below.setCell ?_ ?_ _) | (with_reducible refine Below.trans ?_ (Below.mono (by with_reducible assumption) ?_)) | omega | (simp only [World.size_alloc, World.size_setCell, World.size_drew, size_drewN']; omega) | go_size))⟩
      · rw [hV] at K3
        have HB := Lib.hid (HY.out hV)
        clear HN HY hV HA HI K2 K1
        go_wp2_with fail
        ((refine wp_region_quiet_bel (by kernel_rfl) (by kernel_rfl) ?_); (repeat (go_big_quiet_step ((go_at_call 100; with_reducible exact Calls.quiet_bel (K3.out _ (Sub.bel _)))))); (refine wpQuiet_nil ?_); rintro w3 ⟨⟨_, hb3⟩, rfl⟩; (try dsimp only))
        go_wp2_with fail
        go_roundw
        case rel => exact ⟨k + 1, by omega, by go_num, HB.out, (by have z0 := Below.size hb; have z1 := Below.size hb3; (try simp only [World.size_alloc, World.size_setCell, World.size_drew, size_drewN'] at z0 z1 ⊢; skip); repeat' (first | (with_reducible exact Below.refl _ _) | (with_reducible assumption) | (with_reducible refine Below.alloc ?_ ?_ _) | (with_reducible refine Below.drew ?_) | (with_reducible refine below_drewN ?_ _) | (with_reducible refine Below.setCell ?_ ?_ _) | (with_reducible refine Below.trans ?_ (Below.mono (by with_reducible assumption) ?_)) | omega | (simp only [World.size_alloc, World.size_setCell, World.size_drew, size_drewN']; omega) | go_size))⟩
        case measure => simp [intOf]; omega
    · have HB : Hid (b = true) := HI.out.1 fun t ht => by
        obtain ⟨j, hj, rfl⟩ := List.getElem_of_mem ht
        exact HA.out j hj (by omega)
      clear HI HA K1 K2
      go_wp2
      go_returns
      exact ⟨by rw [HB.out]; rfl, hbW⟩
theorem pow_ne (k : Nat) : (((2 ^ k : Nat) : Int) != 0) = true := by
  have := Nat.two_pow_pos k
  generalize 2 ^ k = p at *
  rw [bne_iff_ne]; omega
theorem primeI_v (hv : v ≤ 24) (hc : evN c < 2 ^ v) (hk : ∀ j, j < v → ¬ ((evN c).testBit j = true ∧ I (cutN j c) = true)) (h : I c = true) : primeI I c = true := primeI_t h fun j hj ⟨h1, h2⟩ => by
  rcases Nat.lt_or_ge j v with h3 | h3
  · exact hk j h3 ⟨h1, h2⟩
  · rw [Nat.testBit_lt_two_pow (Nat.lt_of_lt_of_le hc (Nat.pow_le_pow_right (by omega) h3))] at h1
    simp at h1
set_option maxHeartbeats 4000000 in
theorem rprime13_ok (h : FrI w A f) (ok : FrOk f) (hv : f.vars = v) (h7 : popc (supF f.fr) ≤ 12) (hc : okN c) (hcv : evN c / 2 ^ v = 0) (hI : ∀ c, I c = true ↔ impN (supF f.fr) f.fr.val (onS (supF f.fr) c)) :
    Calls Try.prog 69 #[fv (v : Int) A f.nn cp f.top, cbv (zc c)] w fun e w' => e = .returned (.bool (primeI I c)) ∧ Below w.heap.size w w' := by
  have v1 : v ≤ 24 := by have := ok.v1; omega
  have K := Lib.hid (fun W (hW : Below w.heap.size w W) d (hd : okN d) => rimp13_ok (cp := cp) (h.below hW) ok hv h7 hd hI)
  have HT := Lib.hid (fun (h : I c = true) (hk : ∀ j, j < v → ¬ ((evN c).testBit j = true ∧ I (cutN j c) = true)) => primeI_v v1 (ev_in hcv) hk h)
  have HF := Lib.hid (fun j (hj : j < 24) (h1 : (evN c).testBit j = true) (h2 : I (cutN j c) = true) => primeI_f hj h1 h2)
  have HN := Lib.hid (fun (h : I c = false) => primeI_n h)
  have HC := Lib.hid (fun j => cutN_ok hc j)
  have K0 := Lib.hid (fun W (hW : Below w.heap.size w W) => K.out W hW c hc)
  have hc1 := hc.1
  have hc2 := hc.2.1
  have hE := or_lt24 hc1 hc2
  generalize primeI I c = R at *
  generalize f.nn = nn at *
  generalize f.top = tp at *
  obtain ⟨c1, c2⟩ := c
  have e1 := i64_or c1 c2 (Nat.lt_trans hc1 (by decide)) (Nat.lt_trans hc2 (by decide))
  have HE : Hid (evN (c1, c2) = c1 ||| c2) := rfl
  simp only at hc1 hc2 hE
  obtain ⟨E, hEe⟩ : ∃ E, c1 ||| c2 = E := ⟨_, rfl⟩
  rw [hEe] at HE hE e1
  clear h ok hv h7 hc hI hEe hcv
  go_enter Try.func69, Try.ntmps69
  go_wp2_with fail
  refine (K0.out _ (by (skip); repeat' (first | (with_reducible exact Below.refl _ _) | (with_reducible assumption) | (with_reducible refine Below.alloc ?_ ?_ _) | (with_reducible refine Below.drew ?_) | (with_reducible refine below_drewN ?_ _) | (with_reducible refine Below.setCell ?_ ?_ _) | (with_reducible refine Below.trans ?_ (Below.mono (by with_reducible assumption) ?_)) | omega | (simp only [World.size_alloc, World.size_setCell, World.size_drew, size_drewN']; omega) | go_size))).mono ?_
  rintro e w1 ⟨rfl, hb1⟩
  have hb1z := hb1.size
  simp only [World.size_alloc] at hb1z
  have z0 : w1.cell? ⟨w.heap.size, 0, none⟩ = some (.int .i64 (v : Int)) := (below_at hb1 w.heap.size 0 (by simp; omega)).trans (by simp [go_sem])
  have z1 : w1.cell? ⟨w.heap.size, 1, none⟩ = some (.slice A nn cp) := (below_at hb1 w.heap.size 1 (by simp; omega)).trans (by simp [go_sem])
  have z2 : w1.cell? ⟨w.heap.size, 2, none⟩ = some (.int .i64 tp) := (below_at hb1 w.heap.size 2 (by simp; omega)).trans (by simp [go_sem])
  have x0 : w1.cell? ⟨w.heap.size + 1, 0, none⟩ = some (.int .i64 (c1 : Int)) := (below_at hb1 (w.heap.size + 1) 0 (by simp)).trans (by simp [go_sem])
  have x1 : w1.cell? ⟨w.heap.size + 1, 1, none⟩ = some (.int .i64 (c2 : Int)) := (below_at hb1 (w.heap.size + 1) 1 (by simp)).trans (by simp [go_sem])
  have hbA : Below w.heap.size w w1 := (by have z0 := Below.size hb1; (try simp only [World.size_alloc, World.size_setCell, World.size_drew, size_drewN'] at z0 ⊢; skip); repeat' (first | (with_reducible exact Below.refl _ _) | (with_reducible assumption) | (with_reducible refine Below.alloc ?_ ?_ _) | (with_reducible refine Below.drew ?_) | (with_reducible refine below_drewN ?_ _) | (with_reducible refine Below.setCell ?_ ?_ _) | (with_reducible refine Below.trans ?_ (Below.mono (by with_reducible assumption) ?_)) | omega | (simp only [World.size_alloc, World.size_setCell, World.size_drew, size_drewN']; omega) | go_size))
  clear hb1
  cases hI0 : I (c1, c2)
  · have HR := Lib.hid (HN.out hI0)
    clear HN HF HT
    go_wp2_with fail
    go_returns
    exact ⟨by rw [HR.out]; rfl, hbA⟩
  · have HT1 := Lib.hid (HT.out hI0)
    clear HN HT
    go_wp2_with fail
    go_loopw [5] (fun i wr => ∃ k : Nat, k ≤ v ∧ i = .int .i64 k ∧ (∀ j, j < k → ¬ ((evN (c1, c2)).testBit j = true ∧ I (cutN j (c1, c2)) = true)) ∧ Below w1.heap.size w1 wr) (fun i _ => v - (intOf i).toNat)
    case atStart => exact ⟨0, Nat.zero_le _, rfl, fun j hj => by omega, Below.refl _ _⟩
    case round =>
      obtain ⟨k, hk, rfl, hno, hb⟩ := hrel
      have HNO := Lib.hid hno
      clear hno hI0
      obtain ⟨wo, rfl⟩ : ∃ wo : World, wo = wr := ⟨_, rfl⟩
      have hbz := hb.size
      have y0 := (below_at hb (w.heap.size + 1) 0 (by omega)).trans x0
      have y1 := (below_at hb (w.heap.size + 1) 1 (by omega)).trans x1
      have u0 := (below_at hb w.heap.size 0 (by omega)).trans z0
      have u1 := (below_at hb w.heap.size 1 (by omega)).trans z1
      have u2 := (below_at hb w.heap.size 2 (by omega)).trans z2
      have hbW : Below w.heap.size w wo := hbA.trans (hb.mono (by omega))
      by_cases hkv : k < v
      · have hk24 : k < 24 := by omega
        have hpk := pow_lt24 hk24
        have hk63 : k < 63 := Nat.lt_trans hk24 (by decide)
        have s1 := shl_eq hk63
        have hp0 : (((2 ^ k : Nat) : Int) != 0) = true := pow_ne k
        have e3 := i64_andNot c1 (2 ^ k) (Nat.lt_trans hc1 (by decide)) (Nat.lt_trans hpk (by decide))
        have e4 := i64_andNot c2 (2 ^ k) (Nat.lt_trans hc2 (by decide)) (Nat.lt_trans hpk (by decide))
        have e5 := i64_and E (2 ^ k) (Nat.lt_trans hE (by decide)) (Nat.lt_trans hpk (by decide))
        have HB : Hid ((evN (c1, c2)).testBit k = E.testBit k) := by show _ = _; rw [HE.out]
        cases hbk : E.testBit k
        · rw [bitn hbk] at e5
          rw [hbk] at HB
          have HN2 : Hid (∀ j, j < k + 1 → ¬ ((evN (c1, c2)).testBit j = true ∧ I (cutN j (c1, c2)) = true)) := fun j hj ⟨h1, h2⟩ => by
            rcases Nat.lt_or_ge j k with h | h
            · exact HNO.out j h ⟨h1, h2⟩
            · have : j = k := by omega
              subst this
              rw [HB.out] at h1; simp at h1
          clear hbk HB HF HT1 HNO e3 e4
          generalize 2 ^ k = pk at *
          go_wp2
          go_roundw
          case rel => exact ⟨k + 1, by omega, by go_num, HN2.out, hb⟩
          case measure => simp [intOf]; omega
        · rw [bitp hbk] at e5
          rw [hbk] at HB
          have hd := HC.out k
          have HD : Hid (cutN k (c1, c2) = (ndiff c1 (2 ^ k), ndiff c2 (2 ^ k))) := rfl
          have HFk := Lib.hid (fun h => HF.out k hk24 HB.out h)
          have HN2 : Hid (I (cutN k (c1, c2)) = false → ∀ j, j < k + 1 → ¬ ((evN (c1, c2)).testBit j = true ∧ I (cutN j (c1, c2)) = true)) := fun h0 j hj ⟨h1, h2⟩ => by
            rcases Nat.lt_or_ge j k with h | h
            · exact HNO.out j h ⟨h1, h2⟩
            · have : j = k := by omega
              subst this
              rw [h0] at h2; simp at h2
          rw [HD.out] at hd HFk HN2
          clear hbk HB HF HT1 HNO HD
          generalize ndiff c1 (2 ^ k) = d1 at *
          generalize ndiff c2 (2 ^ k) = d2 at *
          generalize 2 ^ k = pk at *
          have K1 := Lib.hid (fun W (hW : Below w.heap.size w W) => K.out W hW (d1, d2) hd)
          clear K hd K0
          cases hId : I (d1, d2)
          · rw [hId] at K1
            have HN3 := Lib.hid (HN2.out hId)
            clear HN2 HFk hId
            go_wp2_with fail
            refine (K1.out _ (by have z0 := Below.size hbW; (try simp only [World.size_alloc, World.size_setCell, World.size_drew, size_drewN'] at z0 ⊢; skip); repeat' (first | (with_reducible exact Below.refl _ _) | (with_reducible assumption) | (with_reducible refine Below.alloc ?_ ?_ _) | (with_reducible refine Below.drew ?_) | (with_reducible refine below_drewN ?_ _) | (with_reducible refine Below.setCell ?_ ?_ _) | (with_reducible refine Below.trans ?_ (Below.mono (by with_reducible assumption) ?_)) | omega | (simp only [World.size_alloc, World.size_setCell, World.size_drew, size_drewN']; omega) | go_size))).mono ?_
            rintro e w3 ⟨rfl, hb3⟩
            go_wp2_with fail
            go_roundw
            case rel => exact ⟨k + 1, by omega, by go_num, HN3.out, (by have z0 := Below.size hb; have z1 := Below.size hb3; (try simp only [World.size_alloc, World.size_setCell, World.size_drew, size_drewN'] at z0 z1 ⊢; skip); repeat' (first | (with_reducible exact Below.refl _ _) | (with_reducible assumption) | (with_reducible refine Below.alloc ?_ ?_ _) | (with_reducible refine Below.drew ?_) | (with_reducible refine below_drewN ?_ _) | (with_reducible refine Below.setCell ?_ ?_ _) | (with_reducible refine Below.trans ?_ (Below.mono (by with_reducible assumption) ?_)) | omega | (simp only [World.size_alloc, World.size_setCell, World.size_drew, size_drewN']; omega) | go_size))⟩
            case measure => simp [intOf]; omega
          · rw [hId] at K1
            have HR := Lib.hid (HFk.out hId)
            clear HN2 HFk hId
            go_wp2_with fail
            refine (K1.out _ (by have z0 := Below.size hbW; (try simp only [World.size_alloc, World.size_setCell, World.size_drew, size_drewN'] at z0 ⊢; skip); repeat' (first | (with_reducible exact Below.refl _ _) | (with_reducible assumption) | (with_reducible refine Below.alloc ?_ ?_ _) | (with_reducible refine Below.drew ?_) | (with_reducible refine below_drewN ?_ _) | (with_reducible refine Below.setCell ?_ ?_ _) | (with_reducible refine Below.trans ?_ (Below.mono (by with_reducible assumption) ?_)) | omega | (simp only [World.size_alloc, World.size_setCell, World.size_drew, size_drewN']; omega) | go_size))).mono ?_
            rintro e w3 ⟨rfl, hb3⟩
            go_wp2_with fail
            go_returns
            exact ⟨by rw [HR.out]; rfl, (by have z0 := Below.size hbW; have z1 := Below.size hb3; (try simp only [World.size_alloc, World.size_setCell, World.size_drew, size_drewN'] at z0 z1 ⊢; skip); repeat' (first | (with_reducible exact Below.refl _ _) | (with_reducible assumption) | (with_reducible refine Below.alloc ?_ ?_ _) | (with_reducible refine Below.drew ?_) | (with_reducible refine below_drewN ?_ _) | (with_reducible refine Below.setCell ?_ ?_ _) | (with_reducible refine Below.trans ?_ (Below.mono (by with_reducible assumption) ?_)) | omega | (simp only [World.size_alloc, World.size_setCell, World.size_drew, size_drewN']; omega) | go_size))⟩
      · have HR := Lib.hid (HT1.out fun j hj => HNO.out j (by omega))
        clear HT1 HNO HF K K0
        go_wp2
        go_returns
        exact ⟨by rw [HR.out]; rfl, hbW⟩
end
end Go.Proofs.Ytedopalmfakeaaa
