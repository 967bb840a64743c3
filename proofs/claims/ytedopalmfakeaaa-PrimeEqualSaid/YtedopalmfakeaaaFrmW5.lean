/- Contracts of functions and lemmas, used by the proofs of the given statements. No condition beyond those that each lemma names. -/
import Derived.Test.YtedopalmfakeaaaFrmW4
import Derived.Test.YtedopalmfakeaaaJCubeCnt
import Derived.Deep.RegionHeld3
import Derived.Deep.RegionWith
namespace Go.Proofs.Ytedopalmfakeaaa
open Go.RowKit
set_option linter.unusedSimpArgs false
set_option linter.unusedVariables false
set_option maxRecDepth 20000
/-! ## package formula: Value, below, Support -/
theorem okF_code {f : FrR} (ok : FrOk f) : codeF f = 0 := by
  have hn : ∀ k i, i + k ≤ f.nn → ndsC f i k = 0 := fun k => by
    induction k with
    | zero => intro i _; rfl
    | succ k ih =>
      intro i hi
      have h1 : ndC (f.vars + i) (f.kd i) (f.kk i) (f.ar i) = 0 := by
        rw [ndC_k (ok.kd i (by omega)) (ok.ln i (by omega)) ?_]
        · exact ok.kk i (by omega)
        · unfold idxB
          rw [List.all_eq_true]
          intro a ha
          simpa using ok.ar i (by omega) a ha
      show (if _ then _ else _) = _
      rw [if_pos h1]
      exact ih (i + 1) (by omega)
  have := ok.n1
  have := ok.v0
  have := ok.v1
  have := ok.t0
  have := ok.t1
  exact codeF_0 ⟨by omega, by omega⟩ (by omega) (hn f.nn 0 (by omega)) (by unfold topB; simp; omega)
section
variable {w : World} {A : Option Addr} {c : Nat} {f : FrR}
set_option maxHeartbeats 2000000 in
theorem fcheck2_ok {t v : Nat} (h : FrI w A f) (ok : FrOk f) (hv : f.vars = v) (ht : t < 2 ^ v) :
    Calls Try.prog 93 #[fv (v : Int) A f.nn c f.top, .int .i64 (t : Int)] w fun e w' => e = .returned .nilIface ∧ Below w.heap.size w w' := by
  have v1 : v ≤ 24 := by have := ok.v1; omega
  have htop : f.top ≤ 9223372036854775807 := by have := ok.t1; have := ok.n1; omega
  have hz := okF_code ok
  have K := Lib.hid (fun W (hW : Below w.heap.size w W) => (show Calls Try.prog 103 #[fv (v : Int) A f.nn c f.top] W (fun e w' => e = .returned .nilIface ∧ Below W.heap.size W w') from by
    have := fcheck_any (c := c) (h.below hW) htop
    rw [hv] at this
    exact ok_case this hz))
  have s1 := shl_eq (k := v) (by omega)
  have g1 : ¬ ((2 ^ v : Nat) : Int) ≤ (t : Int) := by omega
  clear hv ok hz ht h
  go_enter Try.func93, Try.ntmps93
  go_wp2_with fail
  refine (K.out _ (by (skip); repeat' (first | (with_reducible exact Below.refl _ _) | (with_reducible assumption) | (with_reducible refine Below.alloc ?_ ?_ _) | (with_reducible refine Below.drew ?_) | (with_reducible refine below_drewN ?_ _) | (with_reducible refine Below.setCell ?_ ?_ _) | (with_reducible refine Below.trans ?_ (Below.mono (by with_reducible assumption) ?_)) | omega | (simp only [World.size_alloc, World.size_setCell, World.size_drew, size_drewN']; omega) | go_size))).mono ?_
  rintro e w1 ⟨rfl, hb1⟩
  have hb1z := hb1.size
  simp only [World.size_alloc] at hb1z
  have x0 : w1.cell? ⟨w.heap.size, 0, none⟩ = some (.int .i64 (v : Int)) := (below_at hb1 w.heap.size 0 (by simp)).trans (by simp [go_sem])
  have hsh : IntKind.i64.wrap ((2 : Int) ^ v) = ((2 ^ v : Nat) : Int) := by
    have := Nat.pow_le_pow_right (n := 2) (by omega) v1
    rw [show (2 : Int) ^ v = ((2 ^ v : Nat) : Int) from by simp]
    generalize 2 ^ v = p at *
    rw [IntKind.wrap_i64]; omega
  generalize 2 ^ v = p at *
  go_wp2
  go_ret
  exact ⟨rfl, (by have z0 := Below.size hb1; (try simp only [World.size_alloc, World.size_setCell, World.size_drew, size_drewN'] at z0 ⊢; skip); repeat' (first | (with_reducible exact Below.refl _ _) | (with_reducible assumption) | (with_reducible refine Below.alloc ?_ ?_ _) | (with_reducible refine Below.drew ?_) | (with_reducible refine below_drewN ?_ _) | (with_reducible refine Below.setCell ?_ ?_ _) | (with_reducible refine Below.trans ?_ (Below.mono (by with_reducible assumption) ?_)) | omega | (simp only [World.size_alloc, World.size_setCell, World.size_drew, size_drewN']; omega) | go_size))⟩
set_option maxHeartbeats 4000000 in
theorem fvalue_ok {t v : Nat} (h : FrI w A f) (ok : FrOk f) (hv : f.vars = v) (ht : t < 2 ^ v) :
    Calls Try.prog 55 #[fv (v : Int) A f.nn c f.top, .int .i64 (t : Int)] w fun e w' => e = .returned (.tuple #[.bool (f.fr.val t), .nilIface]) ∧ Below w.heap.size w w' := by
  have v1 : v ≤ 24 := by have := ok.v1; omega
  have ht24 : t < 16777216 := Nat.lt_of_lt_of_le ht (Nat.pow_le_pow_right (n := 2) (by omega) v1)
  have n1 := ok.n1
  obtain ⟨tp, htp⟩ : ∃ tp : Nat, f.top = tp := ⟨f.top.toNat, by have := ok.t0; omega⟩
  have htl : tp < v + f.nn := by have := ok.t1; omega
  have K1 := Lib.hid (fun W (hW : Below w.heap.size w W) => fcheck2_ok (c := c) (t := t) (h.below hW) ok hv ht)
  have K2 := Lib.hid (fun W (hW : Below w.heap.size w W) => values_any (c := c) (t := t) (h.below hW) ok hv ht24)
  have HV : Hid (f.fr.val t = vlF f.fr t f.nn tp) := by
    show vlF f.fr t f.fr.nn f.fr.top = _
    show vlF f.fr t f.nn f.top.toNat = _
    rw [htp]; rfl
  rw [htp] at K1 K2 ⊢
  generalize f.fr.val t = bv at *
  generalize f.nn = nn at *
  clear ok hv h ht htp
  go_enter Try.func55, Try.ntmps55
  go_wp2_with fail
  refine (K1.out _ (by (skip); repeat' (first | (with_reducible exact Below.refl _ _) | (with_reducible assumption) | (with_reducible refine Below.alloc ?_ ?_ _) | (with_reducible refine Below.drew ?_) | (with_reducible refine below_drewN ?_ _) | (with_reducible refine Below.setCell ?_ ?_ _) | (with_reducible refine Below.trans ?_ (Below.mono (by with_reducible assumption) ?_)) | omega | (simp only [World.size_alloc, World.size_setCell, World.size_drew, size_drewN']; omega) | go_size))).mono ?_
  rintro e w1 ⟨rfl, hb1⟩
  have hb1z := hb1.size
  simp only [World.size_alloc] at hb1z
  have x0 : w1.cell? ⟨w.heap.size, 0, none⟩ = some (.int .i64 (v : Int)) := (below_at hb1 w.heap.size 0 (by simp)).trans (by simp [go_sem])
  have x1 : w1.cell? ⟨w.heap.size, 1, none⟩ = some (.slice A nn c) := (below_at hb1 w.heap.size 1 (by simp)).trans (by simp [go_sem])
  have x2 : w1.cell? ⟨w.heap.size, 2, none⟩ = some (.int .i64 (tp : Int)) := (below_at hb1 w.heap.size 2 (by simp)).trans (by simp [go_sem])
  have hbA : Below w.heap.size w w1 := (by have z0 := Below.size hb1; (try simp only [World.size_alloc, World.size_setCell, World.size_drew, size_drewN'] at z0 ⊢; skip); repeat' (first | (with_reducible exact Below.refl _ _) | (with_reducible assumption) | (with_reducible refine Below.alloc ?_ ?_ _) | (with_reducible refine Below.drew ?_) | (with_reducible refine below_drewN ?_ _) | (with_reducible refine Below.setCell ?_ ?_ _) | (with_reducible refine Below.trans ?_ (Below.mono (by with_reducible assumption) ?_)) | omega | (simp only [World.size_alloc, World.size_setCell, World.size_drew, size_drewN']; omega) | go_size))
  have z0 : w.heap.size < w1.heap.size := by omega
  clear hb1
  go_wp2
  have it1 : (0 : Int) ≤ (tp : Int) := by omega
  have it2 : (tp : Int) < (v : Int) + (nn : Int) := by omega
  go_region_with
    ((go_at_call 94; (with_reducible refine (K2.out _ (by (skip); repeat' (first | (with_reducible exact Below.refl _ _) | (with_reducible assumption) | (with_reducible refine Below.alloc ?_ ?_ _) | (with_reducible refine Below.drew ?_) | (with_reducible refine below_drewN ?_ _) | (with_reducible refine Below.setCell ?_ ?_ _) | (with_reducible refine Below.trans ?_ (Below.mono (by with_reducible assumption) ?_)) | omega | (simp only [World.size_alloc, World.size_setCell, World.size_drew, size_drewN']; omega) | go_size))).mono ?_); rintro e w4 ⟨⟨g4, c4, rfl, own4⟩, hb4⟩; have hb4z := Below.size hb4; (try simp only [World.size_alloc, World.size_setCell, World.size_drew] at hb4z); have hb4c0 := fun o => below_at hb4 (w.heap.size) o (by first | omega | (simp only [World.size_alloc, World.size_setCell, World.size_drew]; omega)); have hb4f0 := fun o => below_fr hb4 (w.heap.size) o (by first | omega | (simp only [World.size_alloc, World.size_setCell, World.size_drew]; omega)); have hb4l0 : w.heap.size < (w4).heap.size := (by omega)); have cx := own4.at_ htl)
  all_goals
    go_wp2
    go_returns
    exact ⟨by rw [HV.out]; rfl, (by have z0 := Below.size hbA; have z1 := Below.size hb4; (try simp only [World.size_alloc, World.size_setCell, World.size_drew, size_drewN'] at z0 z1 ⊢; skip); repeat' (first | (with_reducible exact Below.refl _ _) | (with_reducible assumption) | (with_reducible refine Below.alloc ?_ ?_ _) | (with_reducible refine Below.drew ?_) | (with_reducible refine below_drewN ?_ _) | (with_reducible refine Below.setCell ?_ ?_ _) | (with_reducible refine Below.trans ?_ (Below.mono (by with_reducible assumption) ?_)) | omega | (simp only [World.size_alloc, World.size_setCell, World.size_drew, size_drewN']; omega) | go_size))⟩
set_option maxHeartbeats 8000000 in
theorem below_any {v : Nat} (h : FrI w A f) (ok : FrOk f) (hv : f.vars = v) :
    Calls Try.prog 135 #[fv (v : Int) A f.nn c f.top] w fun e w' => (∃ g, e = .returned (.slice (some ⟨g, 0, none⟩) (v + f.nn) (v + f.nn)) ∧ OwV w' w.heap.size (some ⟨g, 0, none⟩) (v + f.nn) (v + f.nn) f.fr.mark) ∧ Below w.heap.size w w' := by
  have v1 : v ≤ 24 := by have := ok.v1; omega
  have n1 := ok.n1
  have HF : Hid (f.fr.vars = v) := vlF_nat f hv
  obtain ⟨tp, htp⟩ : ∃ tp : Nat, f.top = tp := ⟨f.top.toNat, by have := ok.t0; omega⟩
  have htl : tp < v + f.nn := by have := ok.t1; omega
  have HT : Hid (∀ a, mkF f.fr 0 a = (a == tp)) := fun a => by
    show (a == f.top.toNat) = _
    rw [htp]; rfl
  have HS : Hid (∀ k a, k < f.nn → mkF f.fr (k + 1) a = (mkF f.fr k a || (mkF f.fr k (v + (f.nn - 1 - k)) && ((f.ar (f.nn - 1 - k)).map Int.toNat).contains a))) := fun k a _ => by
    show (mkF f.fr k a || (mkF f.fr k (f.fr.vars + (f.nn - 1 - k)) && _)) = _
    rw [HF.out]; rfl
  have HM : Hid (f.fr.mark = mkF f.fr f.nn) := rfl
  have HLN : Hid (∀ i, i < f.nn → (f.ar i).length ≤ 16 ∧ ∀ a, a ∈ f.ar i → 0 ≤ a ∧ a < (v : Int) + i) := fun i hi => ⟨ok.arlen hi, fun a ha => by have := ok.ar i hi a ha; rw [hv] at this; exact this⟩
  have e1 : IntKind.i64.wrap ((v : Int) + (f.nn : Int)) = (((v + f.nn : Nat)) : Int) := by rw [IntKind.wrap_i64]; omega
  have HH : Hid (∀ W, Below w.heap.size w W → ∀ i, i < f.nn → ∃ b off A1 c1, A = some ⟨b, off, none⟩ ∧ b < w.heap.size ∧ W.cell? ⟨b, off + i * 3, none⟩ = some (.int .i64 (f.kd i)) ∧ W.cell? ⟨b, off + i * 3 + 1, none⟩ = some (.int .i64 (f.kk i)) ∧ W.cell? ⟨b, off + i * 3 + 2, none⟩ = some (.slice A1 (f.ar i).length c1) ∧ Rds W w.heap.size 1 A1 (f.ar i).length (zil (f.ar i))) := fun W hW i hi => by
    obtain ⟨b, off, A1, c1, e, hb, z0, z1, z2, ra⟩ := h.at_ (k := i) hi
    exact ⟨b, off, A1, c1, e, hb, (hW.cell (p := ⟨b, _, none⟩) hb).trans z0, (hW.cell (p := ⟨b, _, none⟩) hb).trans z1, (hW.cell (p := ⟨b, _, none⟩) hb).trans z2, ra.below hW⟩
  rw [htp]
  clear ok hv h htp
  generalize f.nn = nn at *
  obtain ⟨m, hm⟩ : ∃ m, v + nn = m := ⟨_, rfl⟩
  rw [hm] at htl e1 ⊢
  have hm0 : 0 < m := by omega
  have hmm : m ≤ 152 := by omega
  have HMM := Lib.hid hm
  generalize mkF f.fr = mk at *
  generalize f.fr.mark = mark at *
  generalize f.kd = kd at *
  generalize f.kk = kk at *
  generalize f.ar = ar at *
  clear hm
  go_enter Try.func135, Try.ntmps135
  go_wp2_with (first | (at_make; refine wpList_makeV rfl (.tmp 12) (.tmp 12) rfl (w.heap.size + 1) m (m : Int) (m : Int) (by first | rfl | simp [Act.eval]) (by first | rfl | simp [Act.eval]) rfl rfl (by omega) (by simp) ?_; intro w1 own1 hb1; (simp only [World.size_alloc] at own1); have hq := own1.at_ htl; have fq := own1.frozen tp; have yq := fun o => below_at hb1 w.heap.size o (by simp)) | fail)
  have hbA : Below w.heap.size w w1 := (by have z0 := Below.size hb1; (try simp only [World.size_alloc, World.size_setCell, World.size_drew, size_drewN'] at z0 ⊢; skip); repeat' (first | (with_reducible exact Below.refl _ _) | (with_reducible assumption) | (with_reducible refine Below.alloc ?_ ?_ _) | (with_reducible refine Below.drew ?_) | (with_reducible refine below_drewN ?_ _) | (with_reducible refine Below.setCell ?_ ?_ _) | (with_reducible refine Below.trans ?_ (Below.mono (by with_reducible assumption) ?_)) | omega | (simp only [World.size_alloc, World.size_setCell, World.size_drew, size_drewN']; omega) | go_size))
  have hz1 := hb1.size
  simp only [World.size_alloc] at hz1
  have x0 : w1.cell? ⟨w.heap.size, 0, none⟩ = some (.int .i64 (v : Int)) := (yq 0).trans (by simp [go_sem])
  have x1 : w1.cell? ⟨w.heap.size, 1, none⟩ = some (.slice A nn c) := (yq 1).trans (by simp [go_sem])
  have own2 := (own1.set tp true).1.congr (f' := mk 0) fun j _ => by
    rw [HT.out]
    by_cases e : j = tp <;> simp [e]
  clear yq hb1 hq fq own1
  go_loopw [4] (fun j wr => ∃ (k : Nat) (z : Int), k ≤ nn ∧ z = (nn : Int) - 1 - k ∧ j = .int .i64 z ∧ OwV wr (w.heap.size + 1) (some ⟨w.heap.size + 1, 0, none⟩) m m (mk k) ∧ Below w.heap.size w wr ∧ w.heap.size + 1 ≤ wr.heap.size ∧ wr.cell? ⟨w.heap.size, 0, none⟩ = some (.int .i64 (v : Int)) ∧ wr.cell? ⟨w.heap.size, 1, none⟩ = some (.slice A nn c)) (fun j _ => (intOf j + 1).toNat)
  case atStart => exact ⟨0, (nn : Int) - 1, Nat.zero_le _, by simp, by first | rfl | go_num | (simp; done), own2, Below.setCell hbA (p := ⟨w.heap.size + 1, _, none⟩) (by simp) _, by simp; omega, set_far (by omega) x0, set_far (by omega) x1⟩
  case round =>
    obtain ⟨k, z, hk, hz, rfl, own, hb, hbz, x0, x1⟩ := hrel
    clear own2 hbA hz1
    obtain ⟨wo, rfl⟩ : ∃ wo : World, wo = wr := ⟨_, rfl⟩
    by_cases hkn : k < nn
    · obtain ⟨i0, rfl⟩ : ∃ i0 : Nat, z = i0 := ⟨nn - 1 - k, by omega⟩
      have hi0 : nn - 1 - k = i0 := by omega
      have hmi : v + i0 < m := by have := HMM.out; omega
      have hm2 : v + nn = m := HMM.out
      have HSk := Lib.hid (fun a => HS.out k a hkn)
      rw [hi0] at HSk
      have HI := Lib.hid hi0
      have HZ := Lib.hid hz
      have hin : i0 < nn := by omega
      clear hi0 hz hm2
      have cm := own.at_ hmi
      cases hmk : mk k (v + i0)
      · rw [hmk] at cm
        have HE : Hid (∀ a, mk k a = mk (k + 1) a) := fun a => by rw [HSk.out, hmk]; simp
        clear hmk HSk
        go_wp2
        go_roundw
        case rel => exact ⟨k + 1, (i0 : Int) - 1, by omega, by have := HZ.out; omega, by go_num, own.congr fun j _ => HE.out j, hb, hbz, x0, x1⟩
        case measure => first | (simp [intOf]; done) | (simp [intOf]; omega)
      · rw [hmk] at cm
        have HE : Hid (∀ a, mk (k + 1) a = (mk k a || ((ar i0).map Int.toNat).contains a)) := fun a => by rw [HSk.out, hmk]; simp
        clear hmk HSk
        obtain ⟨b, off, A1, c1, rfl, hbb, z0, z1, z2, ra⟩ := HH.out wo hb i0 hin
        obtain ⟨hln, har⟩ := HLN.out i0 hin
        generalize ar i0 = l at *
        generalize kd i0 = kdi at *
        generalize kk i0 = kki at *
        go_wp2
        go_loopw [40] (fun j w3 => ∃ q : Nat, q ≤ l.length ∧ j = .int .i64 q ∧ OwV w3 (w.heap.size + 1) (some ⟨w.heap.size + 1, 0, none⟩) m m (fun a => mk k a || ((l.map Int.toNat).take q).contains a) ∧ Below (w.heap.size + 1) wo w3 ∧ wo.heap.size ≤ w3.heap.size) (fun j _ => l.length - (intOf j).toNat)
        case atStart => exact ⟨0, Nat.zero_le _, rfl, own.congr fun j _ => by simp, Below.refl _ _, Nat.le_refl _⟩
        case round =>
          obtain ⟨q, hq, rfl, own3, hb3, hb3z⟩ := hrel
          clear cm
          obtain ⟨wu, rfl⟩ : ∃ wu : World, wu = wr := ⟨_, rfl⟩
          have y0 := (below_at hb3 w.heap.size 0 (by omega)).trans x0
          have y1 := (below_at hb3 w.heap.size 1 (by omega)).trans x1
          by_cases hql : q < l.length
          · obtain ⟨b1, off1, rfl, hb1, zq⟩ := zil_at ra (hb3.mono (by omega)) hql
            have hax := har l[q] (List.getElem_mem _)
            have HC : Hid (∀ a, ((l.map Int.toNat).take (q + 1)).contains a = (((l.map Int.toNat).take q).contains a || a == l[q].toNat)) := fun a => by
              rw [List.take_succ_eq_append_getElem (by simpa using hql), Bool.eq_iff_iff]
              simp
            obtain ⟨x, hx⟩ : ∃ x : Nat, l[q] = x := ⟨l[q].toNat, by omega⟩
            rw [hx] at zq hax HC
            simp only [Int.toNat_natCast] at HC
            have hxm : x < m := by have := HMM.out; omega
            have cx := own3.at_ hxm
            have fx := own3.frozen x
            have hnew := (own3.set x true).1.congr (f' := fun a => mk k a || ((l.map Int.toNat).take (q + 1)).contains a) fun j _ => by
              rw [HC.out]
              by_cases e : j = x
              · subst e; simp
              · have e2 : (j == x) = false := by simp [e]
                rw [if_neg e, e2, Bool.or_false]
            have HNW := Lib.hid hnew
            clear hnew HC hx own3
            go_wp2
            go_roundw
            case rel => exact ⟨q + 1, by omega, by go_num, HNW.out, Below.setCell hb3 (p := ⟨w.heap.size + 1, _, none⟩) (by simp) _, by simp; omega⟩
            case measure => first | (simp [intOf]; done) | (simp [intOf]; omega)
          · have hfin := own3.congr (f' := mk (k + 1)) fun j _ => by
              rw [HE.out, List.take_of_length_le (by simp; omega)]
            clear own3 HE
            go_wp2
            go_roundw
            case rel => exact ⟨k + 1, (i0 : Int) - 1, by omega, by have := HZ.out; omega, by go_num, hfin, hb.trans (hb3.mono (by omega)), by omega, y0, y1⟩
            case measure => first | (simp [intOf]; done) | (simp [intOf]; omega)
    · have HE : Hid (mk k = mark) := by show _ = _; rw [HM.out, show k = nn by omega]
      have hz0 : z = -1 := by omega
      subst hz0
      clear HS HT
      go_wp2
      go_ret
      exact ⟨⟨w.heap.size + 1, rfl, by rw [← HE.out]; exact own.base_ (by omega)⟩, hb⟩
set_option maxHeartbeats 8000000 in
theorem rbelow_any {v : Nat} (h : FrI w A f) (ok : FrOk f) (hv : f.vars = v) :
    Calls Try.prog 123 #[fv (v : Int) A f.nn c f.top] w fun e w' => (∃ g, e = .returned (.slice (some ⟨g, 0, none⟩) (v + f.nn) (v + f.nn)) ∧ OwV w' w.heap.size (some ⟨g, 0, none⟩) (v + f.nn) (v + f.nn) f.fr.mark) ∧ Below w.heap.size w w' := by
  have v1 : v ≤ 24 := by have := ok.v1; omega
  have n1 := ok.n1
  have HF : Hid (f.fr.vars = v) := vlF_nat f hv
  obtain ⟨tp, htp⟩ : ∃ tp : Nat, f.top = tp := ⟨f.top.toNat, by have := ok.t0; omega⟩
  have htl : tp < v + f.nn := by have := ok.t1; omega
  have HT : Hid (∀ a, mkF f.fr 0 a = (a == tp)) := fun a => by
    show (a == f.top.toNat) = _
    rw [htp]; rfl
  have HS : Hid (∀ k a, k < f.nn → mkF f.fr (k + 1) a = (mkF f.fr k a || (mkF f.fr k (v + (f.nn - 1 - k)) && ((f.ar (f.nn - 1 - k)).map Int.toNat).contains a))) := fun k a _ => by
    show (mkF f.fr k a || (mkF f.fr k (f.fr.vars + (f.nn - 1 - k)) && _)) = _
    rw [HF.out]; rfl
  have HM : Hid (f.fr.mark = mkF f.fr f.nn) := rfl
  have HLN : Hid (∀ i, i < f.nn → (f.ar i).length ≤ 16 ∧ ∀ a, a ∈ f.ar i → 0 ≤ a ∧ a < (v : Int) + i) := fun i hi => ⟨ok.arlen hi, fun a ha => by have := ok.ar i hi a ha; rw [hv] at this; exact this⟩
  have e1 : IntKind.i64.wrap ((v : Int) + (f.nn : Int)) = (((v + f.nn : Nat)) : Int) := by rw [IntKind.wrap_i64]; omega
  have HH : Hid (∀ W, Below w.heap.size w W → ∀ i, i < f.nn → ∃ b off A1 c1, A = some ⟨b, off, none⟩ ∧ b < w.heap.size ∧ W.cell? ⟨b, off + i * 3, none⟩ = some (.int .i64 (f.kd i)) ∧ W.cell? ⟨b, off + i * 3 + 1, none⟩ = some (.int .i64 (f.kk i)) ∧ W.cell? ⟨b, off + i * 3 + 2, none⟩ = some (.slice A1 (f.ar i).length c1) ∧ Rds W w.heap.size 1 A1 (f.ar i).length (zil (f.ar i))) := fun W hW i hi => by
    obtain ⟨b, off, A1, c1, e, hb, z0, z1, z2, ra⟩ := h.at_ (k := i) hi
    exact ⟨b, off, A1, c1, e, hb, (hW.cell (p := ⟨b, _, none⟩) hb).trans z0, (hW.cell (p := ⟨b, _, none⟩) hb).trans z1, (hW.cell (p := ⟨b, _, none⟩) hb).trans z2, ra.below hW⟩
  rw [htp]
  clear ok hv h htp
  generalize f.nn = nn at *
  obtain ⟨m, hm⟩ : ∃ m, v + nn = m := ⟨_, rfl⟩
  rw [hm] at htl e1 ⊢
  have hm0 : 0 < m := by omega
  have hmm : m ≤ 152 := by omega
  have HMM := Lib.hid hm
  generalize mkF f.fr = mk at *
  generalize f.fr.mark = mark at *
  generalize f.kd = kd at *
  generalize f.kk = kk at *
  generalize f.ar = ar at *
  clear hm
  go_enter Try.func123, Try.ntmps123
  go_wp2_with (first | (at_make; refine wpList_makeV rfl (.tmp 12) (.tmp 12) rfl (w.heap.size + 1) m (m : Int) (m : Int) (by first | rfl | simp [Act.eval]) (by first | rfl | simp [Act.eval]) rfl rfl (by omega) (by simp) ?_; intro w1 own1 hb1; (simp only [World.size_alloc] at own1); have hq := own1.at_ htl; have fq := own1.frozen tp; have yq := fun o => below_at hb1 w.heap.size o (by simp)) | fail)
  have hbA : Below w.heap.size w w1 := (by have z0 := Below.size hb1; (try simp only [World.size_alloc, World.size_setCell, World.size_drew, size_drewN'] at z0 ⊢; skip); repeat' (first | (with_reducible exact Below.refl _ _) | (with_reducible assumption) | (with_reducible refine Below.alloc ?_ ?_ _) | (with_reducible refine Below.drew ?_) | (with_reducible refine below_drewN ?_ _) | (with_reducible refine Below.setCell ?_ ?_ _) | (with_reducible refine Below.trans ?_ (Below.mono (by with_reducible assumption) ?_)) | omega | (simp only [World.size_alloc, World.size_setCell, World.size_drew, size_drewN']; omega) | go_size))
  have hz1 := hb1.size
  simp only [World.size_alloc] at hz1
  have x0 : w1.cell? ⟨w.heap.size, 0, none⟩ = some (.int .i64 (v : Int)) := (yq 0).trans (by simp [go_sem])
  have x1 : w1.cell? ⟨w.heap.size, 1, none⟩ = some (.slice A nn c) := (yq 1).trans (by simp [go_sem])
  have own2 := (own1.set tp true).1.congr (f' := mk 0) fun j _ => by
    rw [HT.out]
    by_cases e : j = tp <;> simp [e]
  clear yq hb1 hq fq own1
  go_loopw [4] (fun j wr => ∃ (k : Nat) (z : Int), k ≤ nn ∧ z = (nn : Int) - 1 - k ∧ j = .int .i64 z ∧ OwV wr (w.heap.size + 1) (some ⟨w.heap.size + 1, 0, none⟩) m m (mk k) ∧ Below w.heap.size w wr ∧ w.heap.size + 1 ≤ wr.heap.size ∧ wr.cell? ⟨w.heap.size, 0, none⟩ = some (.int .i64 (v : Int)) ∧ wr.cell? ⟨w.heap.size, 1, none⟩ = some (.slice A nn c)) (fun j _ => (intOf j + 1).toNat)
  case atStart => exact ⟨0, (nn : Int) - 1, Nat.zero_le _, by simp, by first | rfl | go_num | (simp; done), own2, Below.setCell hbA (p := ⟨w.heap.size + 1, _, none⟩) (by simp) _, by simp; omega, set_far (by omega) x0, set_far (by omega) x1⟩
  case round =>
    obtain ⟨k, z, hk, hz, rfl, own, hb, hbz, x0, x1⟩ := hrel
    clear own2 hbA hz1
    obtain ⟨wo, rfl⟩ : ∃ wo : World, wo = wr := ⟨_, rfl⟩
    by_cases hkn : k < nn
    · obtain ⟨i0, rfl⟩ : ∃ i0 : Nat, z = i0 := ⟨nn - 1 - k, by omega⟩
      have hi0 : nn - 1 - k = i0 := by omega
      have hmi : v + i0 < m := by have := HMM.out; omega
      have hm2 : v + nn = m := HMM.out
      have HSk := Lib.hid (fun a => HS.out k a hkn)
      rw [hi0] at HSk
      have HI := Lib.hid hi0
      have HZ := Lib.hid hz
      have hin : i0 < nn := by omega
      clear hi0 hz hm2
      have cm := own.at_ hmi
      cases hmk : mk k (v + i0)
      · rw [hmk] at cm
        have HE : Hid (∀ a, mk k a = mk (k + 1) a) := fun a => by rw [HSk.out, hmk]; simp
        clear hmk HSk
        go_wp2
        go_roundw
        case rel => exact ⟨k + 1, (i0 : Int) - 1, by omega, by have := HZ.out; omega, by go_num, own.congr fun j _ => HE.out j, hb, hbz, x0, x1⟩
        case measure => first | (simp [intOf]; done) | (simp [intOf]; omega)
      · rw [hmk] at cm
        have HE : Hid (∀ a, mk (k + 1) a = (mk k a || ((ar i0).map Int.toNat).contains a)) := fun a => by rw [HSk.out, hmk]; simp
        clear hmk HSk
        obtain ⟨b, off, A1, c1, rfl, hbb, z0, z1, z2, ra⟩ := HH.out wo hb i0 hin
        obtain ⟨hln, har⟩ := HLN.out i0 hin
        generalize ar i0 = l at *
        generalize kd i0 = kdi at *
        generalize kk i0 = kki at *
        go_wp2
        go_loopw [41] (fun j w3 => ∃ q : Nat, q ≤ l.length ∧ j = .int .i64 q ∧ OwV w3 (w.heap.size + 1) (some ⟨w.heap.size + 1, 0, none⟩) m m (fun a => mk k a || ((l.map Int.toNat).take q).contains a) ∧ Below (w.heap.size + 1) wo w3 ∧ wo.heap.size ≤ w3.heap.size) (fun j _ => l.length - (intOf j).toNat)
        case atStart => exact ⟨0, Nat.zero_le _, rfl, own.congr fun j _ => by simp, Below.refl _ _, Nat.le_refl _⟩
        case round =>
          obtain ⟨q, hq, rfl, own3, hb3, hb3z⟩ := hrel
          clear cm
          obtain ⟨wu, rfl⟩ : ∃ wu : World, wu = wr := ⟨_, rfl⟩
          have y0 := (below_at hb3 w.heap.size 0 (by omega)).trans x0
          have y1 := (below_at hb3 w.heap.size 1 (by omega)).trans x1
          by_cases hql : q < l.length
          · obtain ⟨b1, off1, rfl, hb1, zq⟩ := zil_at ra (hb3.mono (by omega)) hql
            have hax := har l[q] (List.getElem_mem _)
            have HC : Hid (∀ a, ((l.map Int.toNat).take (q + 1)).contains a = (((l.map Int.toNat).take q).contains a || a == l[q].toNat)) := fun a => by
              rw [List.take_succ_eq_append_getElem (by simpa using hql), Bool.eq_iff_iff]
              simp
            obtain ⟨x, hx⟩ : ∃ x : Nat, l[q] = x := ⟨l[q].toNat, by omega⟩
            rw [hx] at zq hax HC
            simp only [Int.toNat_natCast] at HC
            have hxm : x < m := by have := HMM.out; omega
            have cx := own3.at_ hxm
            have fx := own3.frozen x
            have hnew := (own3.set x true).1.congr (f' := fun a => mk k a || ((l.map Int.toNat).take (q + 1)).contains a) fun j _ => by
              rw [HC.out]
              by_cases e : j = x
              · subst e; simp
              · have e2 : (j == x) = false := by simp [e]
                rw [if_neg e, e2, Bool.or_false]
            have HNW := Lib.hid hnew
            clear hnew HC hx own3
            go_wp2
            go_roundw
            case rel => exact ⟨q + 1, by omega, by go_num, HNW.out, Below.setCell hb3 (p := ⟨w.heap.size + 1, _, none⟩) (by simp) _, by simp; omega⟩
            case measure => first | (simp [intOf]; done) | (simp [intOf]; omega)
          · have hfin := own3.congr (f' := mk (k + 1)) fun j _ => by
              rw [HE.out, List.take_of_length_le (by simp; omega)]
            clear own3 HE
            go_wp2
            go_roundw
            case rel => exact ⟨k + 1, (i0 : Int) - 1, by omega, by have := HZ.out; omega, by go_num, hfin, hb.trans (hb3.mono (by omega)), by omega, y0, y1⟩
            case measure => first | (simp [intOf]; done) | (simp [intOf]; omega)
    · have HE : Hid (mk k = mark) := by show _ = _; rw [HM.out, show k = nn by omega]
      have hz0 : z = -1 := by omega
      subst hz0
      clear HS HT
      go_wp2
      go_ret
      exact ⟨⟨w.heap.size + 1, rfl, by rw [← HE.out]; exact own.base_ (by omega)⟩, hb⟩
end
end Go.Proofs.Ytedopalmfakeaaa
