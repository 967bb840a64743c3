/- Contracts of functions and lemmas, used by the proofs of the given statements. No condition beyond those that each lemma names. -/
import Derived.Test.YtedopalmfakeaaaFrmW3
import Derived.Test.YtedopalmfakeaaaJCubeCnt
import Derived.Test.YtedopalmfakeaaaJCubeC3
namespace Go.Proofs.Ytedopalmfakeaaa
open Go.RowKit
set_option linter.unusedSimpArgs false
set_option linter.unusedVariables false
set_option maxRecDepth 20000
/-! ## package formula: values -/
theorem bit_div (t k : Nat) : t / 2 ^ k % 2 = if t.testBit k then 1 else 0 := by
  rw [Nat.testBit_eq_decide_div_mod_eq]
  by_cases h : t / 2 ^ k % 2 = 1
  · simp [h]
  · simp [h]; omega
theorem set_far {w : World} {b o b' o' : Nat} {v u : Value} (h : b ≠ b') (x : w.cell? ⟨b', o', none⟩ = some u) : (w.setCell ⟨b, o, none⟩ v).cell? ⟨b', o', none⟩ = some u :=
  (World.cell?_setCell_other _ _ _ _ (by intro e; injection e with e1; exact h e1)).trans x
theorem ndV_0 (kk : Int) (len n : Nat) : ndV 0 kk len n = (kk == 1) := by simp [ndV]
theorem ndV_1 (kk : Int) (len n : Nat) : ndV 1 kk len n = (n == 0) := by simp [ndV]
theorem ndV_2 (kk : Int) (len n : Nat) : ndV 2 kk len n = (n == len) := by simp [ndV]
theorem ndV_3 (kk : Int) (len n : Nat) : ndV 3 kk len n = decide (0 < n) := by simp [ndV]
theorem ndV_4 (kk : Int) (len n : Nat) : ndV 4 kk len n = decide (kk ≤ (n : Int)) := by simp [ndV]
theorem ndV_5 (kk : Int) (len n : Nat) : ndV 5 kk len n = (n % 2 == 1) := by simp [ndV]
theorem vlF_nat (f : FrR) {v : Nat} (hv : f.vars = v) : f.fr.vars = v := by show f.vars.toNat = v; rw [hv]; rfl
/-- true arguments among the first k -/
theorem cntT_take (v : Nat → Bool) (l : List Nat) {k : Nat} (hk : k < l.length) : cntT v (l.take (k + 1)) = cntT v (l.take k) + (if v l[k] then 1 else 0) := by
  rw [List.take_succ_eq_append_getElem hk, cntT_append]
  show _ + ((if v l[k] then 1 else 0) + 0) = _
  rw [Nat.add_zero]
section
variable {w : World} {A : Option Addr} {c : Nat} {f : FrR}
set_option maxHeartbeats 8000000 in
theorem values_any {t v : Nat} (h : FrI w A f) (ok : FrOk f) (hv : f.vars = v) (ht : t < 16777216) :
    Calls Try.prog 94 #[fv (v : Int) A f.nn c f.top, .int .i64 (t : Int)] w fun e w' => (∃ g c', e = .returned (.slice (some ⟨g, 0, none⟩) (v + f.nn) c') ∧ OwV w' w.heap.size (some ⟨g, 0, none⟩) c' (v + f.nn) (vlF f.fr t f.nn)) ∧ Below w.heap.size w w' := by
  have v1 : v ≤ 24 := by have := ok.v1; omega
  have n1 := ok.n1
  have HF : Hid (f.fr.vars = v) := vlF_nat f hv
  have HOK := Lib.hid ok
  have e1 : IntKind.i64.wrap ((v : Int) + (f.nn : Int)) = (((v + f.nn : Nat)) : Int) := by rw [IntKind.wrap_i64]; omega
  clear hv ok
  generalize hnn : f.nn = nn at *
  have htop : f.top = f.top := rfl
  go_enter Try.func94, Try.ntmps94
  go_wp2_with (first | (at_make; refine wpList_makeVc rfl (.tmp 14) (.tmp 20) rfl (w.heap.size + 1) v (v + nn) (v : Int) ((v + nn : Nat) : Int) (by first | rfl | simp [Act.eval]) (by first | rfl | simp [Act.eval]) rfl rfl (by omega) (by omega) (by simp) ?_; intro w1 own1 hb1) | fail)
  have hbA : Below w.heap.size w w1 := (by have z0 := Below.size hb1; (try simp only [World.size_alloc, World.size_setCell, World.size_drew, size_drewN'] at z0 ⊢; skip); repeat' (first | (with_reducible exact Below.refl _ _) | (with_reducible assumption) | (with_reducible refine Below.alloc ?_ ?_ _) | (with_reducible refine Below.drew ?_) | (with_reducible refine below_drewN ?_ _) | (with_reducible refine Below.setCell ?_ ?_ _) | (with_reducible refine Below.trans ?_ (Below.mono (by with_reducible assumption) ?_)) | omega | (simp only [World.size_alloc, World.size_setCell, World.size_drew, size_drewN']; omega) | go_size))
  have hz1 := hb1.size
  simp only [World.size_alloc] at hz1 own1
  have y := fun o => below_at hb1 w.heap.size o (by simp)
  have x0 : w1.cell? ⟨w.heap.size, 0, none⟩ = some (.int .i64 (v : Int)) := (y 0).trans (by simp [go_sem])
  have x1 : w1.cell? ⟨w.heap.size, 1, none⟩ = some (.slice A nn c) := (y 1).trans (by simp [go_sem])
  clear y hb1
  go_loopw [24] (fun i wr => ∃ k : Nat, k ≤ v ∧ i = .int .i64 k ∧ OwV wr (w.heap.size + 1) (some ⟨w.heap.size + 1, 0, none⟩) (v + nn) v (fun a => decide (a < k) && t.testBit a) ∧ Below w.heap.size w wr ∧ w.heap.size + 1 ≤ wr.heap.size ∧ wr.cell? ⟨w.heap.size, 0, none⟩ = some (.int .i64 (v : Int)) ∧ wr.cell? ⟨w.heap.size, 1, none⟩ = some (.slice A nn c)) (fun i _ => v - (intOf i).toNat)
  case atStart => exact ⟨0, Nat.zero_le _, rfl, own1.congr fun j _ => by simp, hbA, hz1, x0, x1⟩
  case round =>
    obtain ⟨k, hk, rfl, own, hb, hz, x0, x1⟩ := hrel
    clear own1 hbA hz1
    obtain ⟨wo, rfl⟩ : ∃ wo : World, wo = wr := ⟨_, rfl⟩
    by_cases hkv : k < v
    · have s1 := shr_eq t k
      have hq : t / 2 ^ k < 16777216 := Nat.lt_of_le_of_lt (Nat.div_le_self _ _) ht
      have s2 : bits .and .i64 ((t / 2 ^ k : Nat) : Int) 1 = ((t / 2 ^ k % 2 : Nat) : Int) := by
        have := i64_and (t / 2 ^ k) 1 (by omega) (by omega)
        rw [Nat.and_one_is_mod] at this
        exact this
      have s3 : ((((t / 2 ^ k % 2 : Nat)) : Int) == 1) = t.testBit k := by
        rw [bit_div]
        cases t.testBit k <;> rfl
      obtain ⟨st, sg⟩ := own.set k (t.testBit k)
      have hnew := st.congr (f' := fun a => decide (a < k + 1) && t.testBit a) fun j hj => by
        by_cases e : j = k
        · subst e; simp
        · have : decide (j < k + 1) = decide (j < k) := by rw [decide_eq_decide]; omega
          simp [e, this]
      have c1 := own.at_ hkv
      have fr := own.frozen k
      have HN := Lib.hid hnew
      clear hnew st sg own
      generalize t.testBit k = bb at *
      generalize t / 2 ^ k % 2 = r2 at *
      generalize t / 2 ^ k = r1 at *
      go_wp2
      go_roundw
      case rel => exact ⟨k + 1, by omega, by go_num, HN.out, Below.setCell hb (p := ⟨w.heap.size + 1, _, none⟩) (by simp) _, by simp; omega, set_far (by omega) x0, set_far (by omega) x1⟩
      case measure => simp [intOf]; omega
    · have own0 : OwV wo (w.heap.size + 1) (some ⟨w.heap.size + 1, 0, none⟩) (v + nn) (v + 0) (vlF f.fr t 0) := own.congr fun j hj => by
        have : decide (j < k) = true := by simp; omega
        rw [this]; rfl
      clear own
      go_wp2
      go_loopw [5, 39] (fun s i wr => ∃ k g2 c2 : Nat, k ≤ nn ∧ s = .slice (some ⟨g2, 0, none⟩) (v + k) c2 ∧ i = .int .i64 k ∧ OwV wr (w.heap.size + 1) (some ⟨g2, 0, none⟩) c2 (v + k) (vlF f.fr t k) ∧ Below w.heap.size w wr ∧ w.heap.size + 1 ≤ wr.heap.size ∧ wr.cell? ⟨w.heap.size, 0, none⟩ = some (.int .i64 (v : Int)) ∧ wr.cell? ⟨w.heap.size, 1, none⟩ = some (.slice A nn c)) (fun _ i _ => nn - (intOf i).toNat)
      case atStart => exact ⟨0, w.heap.size + 1, v + nn, Nat.zero_le _, rfl, rfl, own0, hb, hz, x0, x1⟩
      case round =>
        obtain ⟨k, g2, c2, hk, rfl, rfl, own, hb, hz, x0, x1⟩ := hrel
        clear own0
        obtain ⟨wo, rfl⟩ : ∃ wo : World, wo = wr := ⟨_, rfl⟩
        by_cases hkn : k < nn
        · obtain ⟨b, off, A1, c1, rfl, hbb, z0, z1, z2, ra⟩ := (h.on hb (Nat.le_refl _)).at_ (k := k) (by rw [hnn]; exact hkn)
          have okk := HOK.out
          have hkd := okk.kd k (by rw [hnn]; exact hkn)
          have hln := okk.arlen (i := k) (by rw [hnn]; exact hkn)
          have har := okk.ar k (by rw [hnn]; exact hkn)
          have HVS : Hid (∀ j, vlF f.fr t (k + 1) j = if j = v + k then ndV (f.kd k).toNat (f.kk k) (f.ar k).length (cntT (vlF f.fr t k) ((f.ar k).map Int.toNat)) else vlF f.fr t k j) := fun j => by
            show (if j = f.fr.vars + k then _ else _) = _
            rw [HF.out]
            show (if j = v + k then ndV (f.kd k).toNat (f.kk k) ((f.ar k).map Int.toNat).length _ else _) = _
            rw [List.length_map]
            rfl
          have hv2 : f.vars = v := by
            have := HF.out
            have h0 := okk.v0
            change f.vars.toNat = v at this
            omega
          rw [hv2] at har
          clear okk hv2
          generalize f.kd k = kd at *
          generalize f.kk k = kk at *
          generalize f.ar k = l at *
          go_wp2
          have hbW : Below w.heap.size w (wo.alloc (.cells #[.int .i64 kd, .int .i64 kk, .slice A1 l.length c1] 73)) := (by have z0 := Below.size hb; (try simp only [World.size_alloc, World.size_setCell, World.size_drew, size_drewN'] at z0 ⊢; skip); repeat' (first | (with_reducible exact Below.refl _ _) | (with_reducible assumption) | (with_reducible refine Below.alloc ?_ ?_ _) | (with_reducible refine Below.drew ?_) | (with_reducible refine below_drewN ?_ _) | (with_reducible refine Below.setCell ?_ ?_ _) | (with_reducible refine Below.trans ?_ (Below.mono (by with_reducible assumption) ?_)) | omega | (simp only [World.size_alloc, World.size_setCell, World.size_drew, size_drewN']; omega) | go_size))
          have ownW := own.below ((Below.refl wo.heap.size wo).alloc (Nat.le_refl _) (.cells #[.int .i64 kd, .int .i64 kk, .slice A1 l.length c1] 73))
          have raW : Rds (wo.alloc (.cells #[.int .i64 kd, .int .i64 kk, .slice A1 l.length c1] 73)) wo.heap.size 1 A1 l.length (zil l) := ra.below ((Below.refl _ _).alloc (Nat.le_refl _) _)
          have q0 : (wo.alloc (.cells #[.int .i64 kd, .int .i64 kk, .slice A1 l.length c1] 73)).cell? ⟨wo.heap.size, 0, none⟩ = some (.int .i64 kd) := by simp [go_sem]
          have q1 : (wo.alloc (.cells #[.int .i64 kd, .int .i64 kk, .slice A1 l.length c1] 73)).cell? ⟨wo.heap.size, 1, none⟩ = some (.int .i64 kk) := by simp [go_sem]
          have q2 : (wo.alloc (.cells #[.int .i64 kd, .int .i64 kk, .slice A1 l.length c1] 73)).cell? ⟨wo.heap.size, 2, none⟩ = some (.slice A1 l.length c1) := by simp [go_sem]
          have x0' : (wo.alloc (.cells #[.int .i64 kd, .int .i64 kk, .slice A1 l.length c1] 73)).cell? ⟨w.heap.size, 0, none⟩ = some (.int .i64 (v : Int)) := (below_at ((Below.refl wo.heap.size wo).alloc (Nat.le_refl _) _) w.heap.size 0 (by omega)).trans x0
          have x1' : (wo.alloc (.cells #[.int .i64 kd, .int .i64 kk, .slice A1 l.length c1] 73)).cell? ⟨w.heap.size, 1, none⟩ = some (.slice (some ⟨b, off, none⟩) nn c) := (below_at ((Below.refl wo.heap.size wo).alloc (Nat.le_refl _) _) w.heap.size 1 (by omega)).trans x1
          have hwz : wo.heap.size < (wo.alloc (.cells #[.int .i64 kd, .int .i64 kk, .slice A1 l.length c1] 73)).heap.size := by simp
          obtain ⟨W2, hW2⟩ : ∃ W2, W2 = wo.alloc (.cells #[.int .i64 kd, .int .i64 kk, .slice A1 l.length c1] 73) := ⟨_, rfl⟩
          rw [← hW2] at hbW ownW raW q0 q1 q2 x0' x1' hwz ⊢
          clear hW2 z0 z1 z2 own x0 x1
          go_loopw [9, 46] (fun nv j w3 => ∃ q n : Nat, q ≤ l.length ∧ nv = .int .i64 n ∧ j = .int .i64 q ∧ n = cntT (vlF f.fr t k) ((l.map Int.toNat).take q) ∧ n ≤ q ∧ W2 = w3) (fun _ j _ => l.length - (intOf j).toNat)
          case atStart => exact ⟨0, 0, Nat.zero_le _, rfl, rfl, rfl, Nat.le_refl _, rfl⟩
          case round =>
            obtain ⟨q, n, hq, rfl, rfl, hn, hnq, rfl⟩ := hrel
            have HN := Lib.hid hn
            clear hn
            by_cases hql : q < l.length
            · obtain ⟨b1, off1, rfl, hb1, zq⟩ := zil_at raW (Below.refl _ _) hql
              have hax := har l[q] (List.getElem_mem _)
              have HC := Lib.hid (cntT_take (vlF f.fr t k) (l.map Int.toNat) (k := q) (by simpa using hql))
              obtain ⟨x, hx⟩ : ∃ x : Nat, l[q] = x := ⟨l[q].toNat, by omega⟩
              have hxm : (l.map Int.toNat)[q]'(by simpa using hql) = x := by simp [hx]
              rw [hxm] at HC
              rw [hx] at zq hax
              have cx := ownW.at_ (k := x) (by omega)
              cases hbx : vlF f.fr t k x
              · rw [hbx] at cx HC
                have HN' : Hid (n = cntT (vlF f.fr t k) ((l.map Int.toNat).take (q + 1))) := by show n = _; rw [HC.out, ← HN.out]; rfl
                clear HN HC hbx
                go_wp2
                go_roundw
                case rel => exact ⟨q + 1, n, by omega, rfl, by go_num, HN'.out, by omega, by trivial⟩
                case measure => simp [intOf]; omega
              · rw [hbx] at cx HC
                have HN' : Hid (n + 1 = cntT (vlF f.fr t k) ((l.map Int.toNat).take (q + 1))) := by show n + 1 = _; rw [HC.out, ← HN.out]; rfl
                clear HN HC hbx
                go_wp2
                go_roundw
                case rel => exact ⟨q + 1, n + 1, by omega, by go_num, by go_num, HN'.out, by omega, by trivial⟩
                case measure => simp [intOf]; omega
            · obtain ⟨len, hlen⟩ : ∃ len, len = l.length := ⟨_, rfl⟩
              have hn : n = cntT (vlF f.fr t k) (l.map Int.toNat) := by
                have := HN.out
                rwa [List.take_of_length_le (by simp; omega)] at this
              obtain ⟨bv, hbv⟩ : ∃ bv, bv = ndV kd.toNat kk l.length n := ⟨_, rfl⟩
              have HVX : Hid (∀ j, vlF f.fr t (k + 1) j = if j = v + k then bv else vlF f.fr t k j) := fun j => by rw [HVS.out, ← hn, ← hbv]
              rw [← hlen] at hbv
              have HB := Lib.hid hbv
              have HL := Lib.hid hlen
              have hle : len ≤ 16 := by omega
              rw [← hlen] at q2 hql ⊢
              clear hbv hn HN HVS hlen har
              rcases (show kd = 0 ∨ kd = 1 ∨ kd = 2 ∨ kd = 3 ∨ kd = 4 ∨ kd = 5 by omega) with e | e | e | e | e | e
              all_goals subst e
              · have eb : (kk == 1) = bv := by
                  have := HB.out
                  rw [this]
                  exact (ndV_0 _ _ _).symm
                go_wp2_with (first | (at_builtin; refine wpList_appV rfl (.tmp 90) (.tmp 92) rfl (w.heap.size + 1) (some ⟨g2, 0, none⟩) c2 (v + k) (vlF f.fr t k) (by simp [Act.eval]) (ownW.below ((Below.refl _ _).alloc (Nat.le_refl _) _)) W2.heap.size bv rfl (by simp [go_sem]) (by omega) (by simp; omega) ?_; intro g4 c4 w4 own4 hb4 hg4) | fail)
                have z := fun o => below_at hb4 w.heap.size o (by omega)
                have hb4z := hb4.size
                simp only [World.size_alloc] at hb4z
                have HO4 : Hid (OwV w4 (w.heap.size + 1) (some ⟨g4, 0, none⟩) c4 (v + (k + 1)) (vlF f.fr t (k + 1))) := own4.congr fun j _ => (HVX.out j).symm
                go_roundw
                case rel => exact ⟨k + 1, g4, c4, by omega, by first | rfl | (simp; done), by go_num, HO4.out, (by have z0 := Below.size hbW; have z1 := Below.size hb4; (try simp only [World.size_alloc, World.size_setCell, World.size_drew, size_drewN'] at z0 z1 ⊢; skip); repeat' (first | (with_reducible exact Below.refl _ _) | (with_reducible assumption) | (with_reducible refine Below.alloc ?_ ?_ _) | (with_reducible refine Below.drew ?_) | (with_reducible refine below_drewN ?_ _) | (with_reducible refine Below.setCell ?_ ?_ _) | (with_reducible refine Below.trans ?_ (Below.mono (by with_reducible assumption) ?_)) | omega | (simp only [World.size_alloc, World.size_setCell, World.size_drew, size_drewN']; omega) | go_size)), by omega, (z 0).trans ((below_at ((Below.refl _ _).alloc (Nat.le_refl _) _) w.heap.size 0 (by omega)).trans x0'), (z 1).trans ((below_at ((Below.refl _ _).alloc (Nat.le_refl _) _) w.heap.size 1 (by omega)).trans x1')⟩
                case measure => simp [intOf]; omega
              · have eb : ((n : Int) == 0) = bv := by
                  have := HB.out
                  rw [this]
                  exact ((nat_eq n).trans (ndV_1 kk len n).symm)
                go_wp2_with (first | (at_builtin; refine wpList_appV rfl (.tmp 90) (.tmp 92) rfl (w.heap.size + 1) (some ⟨g2, 0, none⟩) c2 (v + k) (vlF f.fr t k) (by simp [Act.eval]) (ownW.below ((Below.refl _ _).alloc (Nat.le_refl _) _)) W2.heap.size bv rfl (by simp [go_sem]) (by omega) (by simp; omega) ?_; intro g4 c4 w4 own4 hb4 hg4) | fail)
                have z := fun o => below_at hb4 w.heap.size o (by omega)
                have hb4z := hb4.size
                simp only [World.size_alloc] at hb4z
                have HO4 : Hid (OwV w4 (w.heap.size + 1) (some ⟨g4, 0, none⟩) c4 (v + (k + 1)) (vlF f.fr t (k + 1))) := own4.congr fun j _ => (HVX.out j).symm
                go_roundw
                case rel => exact ⟨k + 1, g4, c4, by omega, by first | rfl | (simp; done), by go_num, HO4.out, (by have z0 := Below.size hbW; have z1 := Below.size hb4; (try simp only [World.size_alloc, World.size_setCell, World.size_drew, size_drewN'] at z0 z1 ⊢; skip); repeat' (first | (with_reducible exact Below.refl _ _) | (with_reducible assumption) | (with_reducible refine Below.alloc ?_ ?_ _) | (with_reducible refine Below.drew ?_) | (with_reducible refine below_drewN ?_ _) | (with_reducible refine Below.setCell ?_ ?_ _) | (with_reducible refine Below.trans ?_ (Below.mono (by with_reducible assumption) ?_)) | omega | (simp only [World.size_alloc, World.size_setCell, World.size_drew, size_drewN']; omega) | go_size)), by omega, (z 0).trans ((below_at ((Below.refl _ _).alloc (Nat.le_refl _) _) w.heap.size 0 (by omega)).trans x0'), (z 1).trans ((below_at ((Below.refl _ _).alloc (Nat.le_refl _) _) w.heap.size 1 (by omega)).trans x1')⟩
                case measure => simp [intOf]; omega
              · have eb : ((n : Int) == (len : Int)) = bv := by
                  have := HB.out
                  rw [this]
                  exact ((nat_eqn n len).trans (ndV_2 kk len n).symm)
                go_wp2_with (first | (at_builtin; refine wpList_appV rfl (.tmp 90) (.tmp 92) rfl (w.heap.size + 1) (some ⟨g2, 0, none⟩) c2 (v + k) (vlF f.fr t k) (by simp [Act.eval]) (ownW.below ((Below.refl _ _).alloc (Nat.le_refl _) _)) W2.heap.size bv rfl (by simp [go_sem]) (by omega) (by simp; omega) ?_; intro g4 c4 w4 own4 hb4 hg4) | fail)
                have z := fun o => below_at hb4 w.heap.size o (by omega)
                have hb4z := hb4.size
                simp only [World.size_alloc] at hb4z
                have HO4 : Hid (OwV w4 (w.heap.size + 1) (some ⟨g4, 0, none⟩) c4 (v + (k + 1)) (vlF f.fr t (k + 1))) := own4.congr fun j _ => (HVX.out j).symm
                go_roundw
                case rel => exact ⟨k + 1, g4, c4, by omega, by first | rfl | (simp; done), by go_num, HO4.out, (by have z0 := Below.size hbW; have z1 := Below.size hb4; (try simp only [World.size_alloc, World.size_setCell, World.size_drew, size_drewN'] at z0 z1 ⊢; skip); repeat' (first | (with_reducible exact Below.refl _ _) | (with_reducible assumption) | (with_reducible refine Below.alloc ?_ ?_ _) | (with_reducible refine Below.drew ?_) | (with_reducible refine below_drewN ?_ _) | (with_reducible refine Below.setCell ?_ ?_ _) | (with_reducible refine Below.trans ?_ (Below.mono (by with_reducible assumption) ?_)) | omega | (simp only [World.size_alloc, World.size_setCell, World.size_drew, size_drewN']; omega) | go_size)), by omega, (z 0).trans ((below_at ((Below.refl _ _).alloc (Nat.le_refl _) _) w.heap.size 0 (by omega)).trans x0'), (z 1).trans ((below_at ((Below.refl _ _).alloc (Nat.le_refl _) _) w.heap.size 1 (by omega)).trans x1')⟩
                case measure => simp [intOf]; omega
              · have eb : decide (0 < n) = bv := by
                  have := HB.out
                  rw [this]
                  exact (ndV_3 _ _ _).symm
                go_wp2_with (first | (at_builtin; refine wpList_appV rfl (.tmp 90) (.tmp 92) rfl (w.heap.size + 1) (some ⟨g2, 0, none⟩) c2 (v + k) (vlF f.fr t k) (by simp [Act.eval]) (ownW.below ((Below.refl _ _).alloc (Nat.le_refl _) _)) W2.heap.size bv rfl (by simp [go_sem]) (by omega) (by simp; omega) ?_; intro g4 c4 w4 own4 hb4 hg4) | fail)
                have z := fun o => below_at hb4 w.heap.size o (by omega)
                have hb4z := hb4.size
                simp only [World.size_alloc] at hb4z
                have HO4 : Hid (OwV w4 (w.heap.size + 1) (some ⟨g4, 0, none⟩) c4 (v + (k + 1)) (vlF f.fr t (k + 1))) := own4.congr fun j _ => (HVX.out j).symm
                go_roundw
                case rel => exact ⟨k + 1, g4, c4, by omega, by first | rfl | (simp; done), by go_num, HO4.out, (by have z0 := Below.size hbW; have z1 := Below.size hb4; (try simp only [World.size_alloc, World.size_setCell, World.size_drew, size_drewN'] at z0 z1 ⊢; skip); repeat' (first | (with_reducible exact Below.refl _ _) | (with_reducible assumption) | (with_reducible refine Below.alloc ?_ ?_ _) | (with_reducible refine Below.drew ?_) | (with_reducible refine below_drewN ?_ _) | (with_reducible refine Below.setCell ?_ ?_ _) | (with_reducible refine Below.trans ?_ (Below.mono (by with_reducible assumption) ?_)) | omega | (simp only [World.size_alloc, World.size_setCell, World.size_drew, size_drewN']; omega) | go_size)), by omega, (z 0).trans ((below_at ((Below.refl _ _).alloc (Nat.le_refl _) _) w.heap.size 0 (by omega)).trans x0'), (z 1).trans ((below_at ((Below.refl _ _).alloc (Nat.le_refl _) _) w.heap.size 1 (by omega)).trans x1')⟩
                case measure => simp [intOf]; omega
              · have eb : decide (kk ≤ (n : Int)) = bv := by
                  have := HB.out
                  rw [this]
                  exact (ndV_4 _ _ _).symm
                go_wp2_with (first | (at_builtin; refine wpList_appV rfl (.tmp 90) (.tmp 92) rfl (w.heap.size + 1) (some ⟨g2, 0, none⟩) c2 (v + k) (vlF f.fr t k) (by simp [Act.eval]) (ownW.below ((Below.refl _ _).alloc (Nat.le_refl _) _)) W2.heap.size bv rfl (by simp [go_sem]) (by omega) (by simp; omega) ?_; intro g4 c4 w4 own4 hb4 hg4) | fail)
                have z := fun o => below_at hb4 w.heap.size o (by omega)
                have hb4z := hb4.size
                simp only [World.size_alloc] at hb4z
                have HO4 : Hid (OwV w4 (w.heap.size + 1) (some ⟨g4, 0, none⟩) c4 (v + (k + 1)) (vlF f.fr t (k + 1))) := own4.congr fun j _ => (HVX.out j).symm
                go_roundw
                case rel => exact ⟨k + 1, g4, c4, by omega, by first | rfl | (simp; done), by go_num, HO4.out, (by have z0 := Below.size hbW; have z1 := Below.size hb4; (try simp only [World.size_alloc, World.size_setCell, World.size_drew, size_drewN'] at z0 z1 ⊢; skip); repeat' (first | (with_reducible exact Below.refl _ _) | (with_reducible assumption) | (with_reducible refine Below.alloc ?_ ?_ _) | (with_reducible refine Below.drew ?_) | (with_reducible refine below_drewN ?_ _) | (with_reducible refine Below.setCell ?_ ?_ _) | (with_reducible refine Below.trans ?_ (Below.mono (by with_reducible assumption) ?_)) | omega | (simp only [World.size_alloc, World.size_setCell, World.size_drew, size_drewN']; omega) | go_size)), by omega, (z 0).trans ((below_at ((Below.refl _ _).alloc (Nat.le_refl _) _) w.heap.size 0 (by omega)).trans x0'), (z 1).trans ((below_at ((Below.refl _ _).alloc (Nat.le_refl _) _) w.heap.size 1 (by omega)).trans x1')⟩
                case measure => simp [intOf]; omega
              · have et : Int.tmod (n : Int) 2 = (n : Int) % 2 := Int.tmod_eq_emod_of_nonneg (by omega)
                have eb : ((n : Int) % 2 == 1) = bv := by
                  rw [HB.out]
                  refine Eq.trans ?_ (ndV_5 kk len n).symm
                  exact nat_eqn (n % 2) 1
                go_wp2_with (first | (at_builtin; refine wpList_appV rfl (.tmp 90) (.tmp 92) rfl (w.heap.size + 1) (some ⟨g2, 0, none⟩) c2 (v + k) (vlF f.fr t k) (by simp [Act.eval]) (ownW.below ((Below.refl _ _).alloc (Nat.le_refl _) _)) W2.heap.size bv rfl (by simp [go_sem]) (by omega) (by simp; omega) ?_; intro g4 c4 w4 own4 hb4 hg4) | fail)
                have z := fun o => below_at hb4 w.heap.size o (by omega)
                have hb4z := hb4.size
                simp only [World.size_alloc] at hb4z
                have HO4 : Hid (OwV w4 (w.heap.size + 1) (some ⟨g4, 0, none⟩) c4 (v + (k + 1)) (vlF f.fr t (k + 1))) := own4.congr fun j _ => (HVX.out j).symm
                go_roundw
                case rel => exact ⟨k + 1, g4, c4, by omega, by first | rfl | (simp; done), by go_num, HO4.out, (by have z0 := Below.size hbW; have z1 := Below.size hb4; (try simp only [World.size_alloc, World.size_setCell, World.size_drew, size_drewN'] at z0 z1 ⊢; skip); repeat' (first | (with_reducible exact Below.refl _ _) | (with_reducible assumption) | (with_reducible refine Below.alloc ?_ ?_ _) | (with_reducible refine Below.drew ?_) | (with_reducible refine below_drewN ?_ _) | (with_reducible refine Below.setCell ?_ ?_ _) | (with_reducible refine Below.trans ?_ (Below.mono (by with_reducible assumption) ?_)) | omega | (simp only [World.size_alloc, World.size_setCell, World.size_drew, size_drewN']; omega) | go_size)), by omega, (z 0).trans ((below_at ((Below.refl _ _).alloc (Nat.le_refl _) _) w.heap.size 0 (by omega)).trans x0'), (z 1).trans ((below_at ((Below.refl _ _).alloc (Nat.le_refl _) _) w.heap.size 1 (by omega)).trans x1')⟩
                case measure => simp [intOf]; omega
        · obtain rfl : k = nn := by omega
          go_wp2
          go_ret
          exact ⟨⟨g2, c2, rfl, own.base_ (by omega)⟩, hb⟩
end
end Go.Proofs.Ytedopalmfakeaaa
