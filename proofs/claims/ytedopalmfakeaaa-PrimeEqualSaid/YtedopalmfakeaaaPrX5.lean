/- Contracts of functions and lemmas, used by the proofs of the given statements. No condition beyond those that each lemma names. -/
import Derived.Test.YtedopalmfakeaaaPrX4
import Derived.Test.YtedopalmfakeaaaJPrmN
import Derived.Deep.CutRange
namespace Go.Proofs.Ytedopalmfakeaaa
open Go.RowKit Go.Sort
set_option linter.unusedSimpArgs false
set_option linter.unusedVariables false
set_option maxRecDepth 20000
/-! ## law13: the reference's merge -/
attribute [local irreducible] pop popc
theorem mPut_no {l : List Cn} {i k : Nat} {s : MSt} (h : ¬ (evN (atN l i) = evN (atN l k) ∧ csB (atN l i) (atN l k) = true)) : mPut l i k s = s := by
  unfold mPut mrgO
  rw [if_neg h]
theorem mPut_yes {l : List Cn} {i k : Nat} {s : MSt} (h : evN (atN l i) = evN (atN l k) ∧ csB (atN l i) (atN l k) = true) : mPut l i k s = (s.1 ++ [csN (atN l i) (atN l k)], fun j => j == i || j == k || s.2 j) := by
  unfold mPut mrgO
  rw [if_pos h]
theorem mAll_okN {l : List Cn} (hok : ∀ a ∈ l, okN a) {n : Nat} (hn : n ≤ l.length) : ∀ c ∈ (mAll l n).1, okN c := fun c hc => by
  obtain ⟨i, k, hi, hk, h⟩ := mAll_mem.1 hc
  have h2 := (mrgO_some.1 h).2
  rw [← h2]
  exact csN_ok (hok _ (atN_mem (by omega))) (hok _ (atN_mem (by omega)))
set_option maxHeartbeats 8000000 in
theorem rmerge_any (A : Option Addr) (l : List Cn) (nl c : Nat) (w : World) (hl : l.length = nl) (h0 : 0 < nl) (hn : nl ≤ 1024) (hok : ∀ a ∈ l, okN a) (h : RdC w w.heap.size A (l.map zc)) :
    Calls Try.prog 101 #[.slice A nl c] w fun e w' => (∃ A1 c1 g2, e = .returned (.tuple #[.slice A1 (srtD ltN (mAll l nl).1).length c1, .slice (some ⟨g2, 0, none⟩) nl nl]) ∧ OwC w' w.heap.size A1 c1 ((srtD ltN (mAll l nl).1).map zc) ∧ OwV w' w.heap.size (some ⟨g2, 0, none⟩) nl nl (mAll l nl).2) ∧ Below w.heap.size w w' := by
  have HSO := Lib.hid (fun A1 c1 W (hr : RdC W W.heap.size A1 ((mAll l nl).1.map zc)) => rsort_any A1 (mAll l nl).1 _ c1 W rfl (by have := mAll_room (l := l) hn; omega) (mAll_okN hok (by omega)) hr)
  have HRM := Lib.hid (fun k q (hk : k < nl) (hq : q ≤ k) => mRow_room (l := l) (n := k) (k := q) (by omega) hq)
  have HAM := Lib.hid (fun k (hk : k ≤ nl) => mAll_room (l := l) (n := k) (by omega))
  have HO := Lib.hid hok
  clear hok
  go_enter Try.func101, Try.ntmps101
  go_wp2_with (first | (at_make; refine wpList_makeV rfl (.tmp 11) (.tmp 11) rfl w.heap.size nl (nl : Int) (nl : Int) (by first | rfl | simp [Act.eval]) (by first | rfl | simp [Act.eval]) rfl rfl (by omega) (by omega) ?_; intro w1 own1 hb1) | fail)
  have hgl : w.heap.size < w1.heap.size := (own1.form h0).elim fun g h => by
    obtain ⟨h1, h2, h3⟩ := h
    injection h1 with h1
    injection h1 with h1
    omega
  obtain ⟨B, hB⟩ : ∃ B, B = w1.heap.size := ⟨_, rfl⟩
  rw [← hB] at hgl
  have hBle : B ≤ w1.heap.size := by omega
  clear hB
  go_loopw [4, 6] (fun o i wr => ∃ (k : Nat) (A' : Option Addr) (c' : Nat), k ≤ nl ∧ o = .slice A' (mAll l k).1.length c' ∧ i = .int .i64 k ∧ OwC wr B A' c' ((mAll l k).1.map zc) ∧ OwV wr w.heap.size (some ⟨w.heap.size, 0, none⟩) nl nl (mAll l k).2 ∧ Below w.heap.size w wr ∧ B ≤ wr.heap.size) (fun _ i _ => nl - (intOf i).toNat)
  case atStart => exact ⟨0, none, 0, Nat.zero_le _, rfl, rfl, OwC.nil_ _ _, own1, hb1, hBle⟩
  case round =>
    obtain ⟨k, A', c', hk, rfl, rfl, own, ownU, hb, hz⟩ := hrel
    clear own1 hb1 hBle
    obtain ⟨wo, rfl⟩ : ∃ wo : World, wo = wr := ⟨_, rfl⟩
    by_cases hkn : k < nl
    · have HM1 : Hid (mAll l (k + 1) = mRow l k (mAll l k) k) := rfl
      have HR0 : Hid (mRow l k (mAll l k) 0 = mAll l k) := rfl
      have HRS : Hid (∀ q, mRow l k (mAll l k) (q + 1) = mPut l k q (mRow l k (mAll l k) q)) := fun q => rfl
      rw [← HR0.out] at own ownU
      rw [show (mAll l k).1.length = (mRow l k (mAll l k) 0).1.length from rfl]
      have HRK : Hid (∀ q, q ≤ k → (mRow l k (mAll l k) q).1.length ≤ 524288) := fun q hq => HRM.out k q hkn hq
      generalize mRow l k (mAll l k) = R at *
      go_wp2
      go_loopw [4, 7] (fun o j wr => ∃ (q : Nat) (A' : Option Addr) (c' : Nat), q ≤ k ∧ o = .slice A' (R q).1.length c' ∧ j = .int .i64 q ∧ OwC wr B A' c' ((R q).1.map zc) ∧ OwV wr w.heap.size (some ⟨w.heap.size, 0, none⟩) nl nl (R q).2 ∧ Below w.heap.size w wr ∧ B ≤ wr.heap.size) (fun _ j _ => k - (intOf j).toNat)
      case atStart => exact ⟨0, A', c', Nat.zero_le _, rfl, rfl, own, ownU, hb, hz⟩
      case round =>
        obtain ⟨q, A2, c2, hq, rfl, rfl, own2, ownU2, hb2, hz2⟩ := hrel
        clear own ownU hb hz
        obtain ⟨wu, rfl⟩ : ∃ wu : World, wu = wr := ⟨_, rfl⟩
        by_cases hqk : q < k
        · have hlen := HRK.out q hq
          have hda := HO.out _ (atN_mem (l := l) (i := k) (by omega))
          have hdb := HO.out _ (atN_mem (l := l) (i := q) (by omega))
          obtain ⟨b, off, rfl, hbb, a1, a2⟩ := (h.below hb2).at_ (k := k) (c := zc (atN l k)) (by rw [List.getElem?_map, List.getElem?_eq_getElem (by omega), atN_lt (by omega)]; rfl)
          obtain ⟨b', off', eb, hbb', b1, b2⟩ := (h.below hb2).at_ (k := q) (c := zc (atN l q)) (by rw [List.getElem?_map, List.getElem?_eq_getElem (by omega), atN_lt (by omega)]; rfl)
          injection eb with eb
          injection eb with eb1 eb2
          subst eb1 eb2
          have HNO := Lib.hid (fun h => (HRS.out q).trans (mPut_no (l := l) (i := k) (k := q) (s := R q) h))
          have HYE := Lib.hid (fun h => (HRS.out q).trans (mPut_yes (l := l) (i := k) (k := q) (s := R q) h))
          generalize atN l k = d at *
          generalize atN l q = g at *
          have e1 := i64_or d.1 d.2 (Nat.lt_trans hda.1 (by decide)) (Nat.lt_trans hda.2.1 (by decide))
          have e2 := i64_or g.1 g.2 (Nat.lt_trans hdb.1 (by decide)) (Nat.lt_trans hdb.2.1 (by decide))
          have KC := Lib.hid (fun W => refCons_ok d g hda hdb W)
          have HVd : Hid (evN d = d.1 ||| d.2) := rfl
          have HVg : Hid (evN g = g.1 ||| g.2) := rfl
          rw [← HVd.out] at e1
          rw [← HVg.out] at e2
          clear hda hdb hbb'
          have hzu := hb2.size
          have hbl : b < wu.heap.size := by omega
          by_cases hE : evN d = evN g
          · have e3 : ((evN d : Int) != (evN g : Int)) = false := by simp [hE]
            have f1 := fun y : Sub wu => y.cell a1
            have f2 := fun y : Sub wu => y.cell a2
            have f3 := fun y : Sub wu => y.cell b1
            have f4 := fun y : Sub wu => y.cell b2
            have HEV := Lib.hid hE
            clear hE
            generalize evN d = Ed at *
            generalize evN g = Eg at *
            go_wp2
            ((refine wp_region_quiet_bel (by kernel_rfl) (by kernel_rfl) ?_); (repeat (go_big_quiet_step (fail))); (refine wpQuiet_nil ?_); rintro w3 ⟨⟨_, hb3⟩, rfl⟩; (try dsimp only))
            clear f1 f2 f3 f4 e1 e2 e3
            have hb3z := hb3.size
            have u1 := (below_at hb3 b _ hbl).trans a1
            have u2 := (below_at hb3 b _ hbl).trans a2
            have u3 := (below_at hb3 b _ hbl).trans b1
            have u4 := (below_at hb3 b _ hbl).trans b2
            have own3 := own2.below hb3
            have ownU3 := ownU2.below hb3
            have hbW : Below w.heap.size w w3 := (by have z0 := Below.size hb2; have z1 := Below.size hb3; (try simp only [World.size_alloc, World.size_setCell, World.size_drew, size_drewN'] at z0 z1 ⊢; skip); repeat' (first | (with_reducible exact Below.refl _ _) | (with_reducible assumption) | (with_reducible refine Below.alloc ?_ ?_ _) | (with_reducible refine Below.drew ?_) | (with_reducible refine below_drewN ?_ _) | (with_reducible refine Below.setCell ?_ ?_ _) | (with_reducible refine Below.trans ?_ (Below.mono (by with_reducible assumption) ?_)) | omega | (simp only [World.size_alloc, World.size_setCell, World.size_drew, size_drewN']; omega) | go_size))
            clear own2 ownU2 hb2 hb3 a1 a2 b1 b2
            have hbl3 : b < w3.heap.size := by omega
            generalize hcs : csN d g = x at *
            generalize hcb : csB d g = bo at *
            have HCS := Lib.hid hcs
            have HCB := Lib.hid hcb
            obtain ⟨d1, d2⟩ := d
            obtain ⟨g1, g2⟩ := g
            obtain ⟨x1, x2⟩ := x
            clear hcs hcb
            have i1 : (0 : Int) ≤ (q : Int) := by omega
            have i2 : (q : Int) < (nl : Int) := by omega
            have i3 : (0 : Int) ≤ (k : Int) := by omega
            have i4 : (k : Int) < (nl : Int) := by omega
            have nb1 : ¬ (w3.heap.size = b) := by omega
            have nb2 : ¬ (b = w3.heap.size) := by omega
            go_wp2
            go_cut [8, 9] from 47 to 58 (fun p v wx => v = .bool bo ∧ ∃ z, p = .pointer (some ⟨z, 0, none⟩) ∧ w3.heap.size ≤ z ∧ z < wx.heap.size ∧ wx.cell? ⟨z, 0, none⟩ = some (.int .i64 (x1 : Int)) ∧ wx.cell? ⟨z, 1, none⟩ = some (.int .i64 (x2 : Int)) ∧ Below w3.heap.size w3 wx)
            case first =>
              go_region_held3 (fun W => W.cell? ⟨b, off + k * 2, none⟩ = some (.int .i64 (d1 : Int)) ∧ W.cell? ⟨b, off + k * 2 + 1, none⟩ = some (.int .i64 (d2 : Int)) ∧ W.cell? ⟨b, off + q * 2, none⟩ = some (.int .i64 (g1 : Int)) ∧ W.cell? ⟨b, off + q * 2 + 1, none⟩ = some (.int .i64 (g2 : Int))) (go_keep)
                (first | ((go_at_call 32; (with_reducible refine (KC.out _).mono ?_); rintro e w4 ⟨rfl, hb4⟩; have hb4z := Below.size hb4; (try simp only [World.size_alloc, World.size_setCell, World.size_drew] at hb4z); have hb4c0 := fun o => below_at hb4 (b) o (by first | omega | (simp only [World.size_alloc, World.size_setCell, World.size_drew]; omega)); have hb4f0 := fun o => below_fr hb4 (b) o (by first | omega | (simp only [World.size_alloc, World.size_setCell, World.size_drew]; omega)); have hb4l0 : b < (w4).heap.size := (by omega); have hb4c1 := fun o => below_at hb4 (w3.heap.size) o (by first | omega | (simp only [World.size_alloc, World.size_setCell, World.size_drew]; omega)); have hb4f1 := fun o => below_fr hb4 (w3.heap.size) o (by first | omega | (simp only [World.size_alloc, World.size_setCell, World.size_drew]; omega)); have hb4l1 : w3.heap.size < (w4).heap.size := (by omega))) | ((go_at_call 32; (with_reducible refine (KC.out _).mono ?_); rintro e w4 ⟨rfl, hb4⟩; have hb4z := Below.size hb4; (try simp only [World.size_alloc, World.size_setCell, World.size_drew] at hb4z); have hb4c0 := fun o => below_at hb4 (b) o (by first | omega | (simp only [World.size_alloc, World.size_setCell, World.size_drew]; omega)); have hb4f0 := fun o => below_fr hb4 (b) o (by first | omega | (simp only [World.size_alloc, World.size_setCell, World.size_drew]; omega)); have hb4l0 : b < (w4).heap.size := (by omega)); have nb3 : ¬ (w4.heap.size = b) := (by omega); have nb4 : ¬ (b = w4.heap.size) := (by omega)) | fail)
              all_goals
                go_wp2
                go_meet
                first
                | exact ⟨rfl, w4.heap.size, rfl, by omega, by simp, by simp, by simp, (by have z0 := Below.size hb4; (try simp only [World.size_alloc, World.size_setCell, World.size_drew, size_drewN'] at z0 ⊢; skip); repeat' (first | (with_reducible exact Below.refl _ _) | (with_reducible assumption) | (with_reducible refine Below.alloc ?_ ?_ _) | (with_reducible refine Below.drew ?_) | (with_reducible refine below_drewN ?_ _) | (with_reducible refine Below.setCell ?_ ?_ _) | (with_reducible refine Below.trans ?_ (Below.mono (by with_reducible assumption) ?_)) | omega | (simp only [World.size_alloc, World.size_setCell, World.size_drew, size_drewN']; omega) | go_size))⟩
                | exact ⟨rfl, w3.heap.size, rfl, Nat.le_refl _, by simp; omega, (World.cell?_setCell_other _ _ _ _ (by simp)).trans (World.cell?_setCell_same' _ _ _ (by rw [below_at hb4 w3.heap.size 0 (by simp)]; simp)), World.cell?_setCell_same' _ _ _ (by rw [World.cell?_setCell_other _ _ _ _ (by simp), below_at hb4 w3.heap.size 1 (by simp)]; simp), Below.setCell (Below.setCell (by have z0 := Below.size hb4; (try simp only [World.size_alloc, World.size_setCell, World.size_drew, size_drewN'] at z0 ⊢; skip); repeat' (first | (with_reducible exact Below.refl _ _) | (with_reducible assumption) | (with_reducible refine Below.alloc ?_ ?_ _) | (with_reducible refine Below.drew ?_) | (with_reducible refine below_drewN ?_ _) | (with_reducible refine Below.setCell ?_ ?_ _) | (with_reducible refine Below.trans ?_ (Below.mono (by with_reducible assumption) ?_)) | omega | (simp only [World.size_alloc, World.size_setCell, World.size_drew, size_drewN']; omega) | go_size)) (p := ⟨w3.heap.size, 0, none⟩) (Nat.le_refl _) _) (p := ⟨w3.heap.size, 1, none⟩) (Nat.le_refl _) _⟩
            case rest =>
              obtain ⟨rfl, z, rfl, hz1, hz4, z0, z1, hbc⟩ := hcut
              have hbcz := hbc.size
              have hbX : Below w.heap.size w wc := (by have z0 := Below.size hbW; have z1 := Below.size hbc; (try simp only [World.size_alloc, World.size_setCell, World.size_drew, size_drewN'] at z0 z1 ⊢; skip); repeat' (first | (with_reducible exact Below.refl _ _) | (with_reducible assumption) | (with_reducible refine Below.alloc ?_ ?_ _) | (with_reducible refine Below.drew ?_) | (with_reducible refine below_drewN ?_ _) | (with_reducible refine Below.setCell ?_ ?_ _) | (with_reducible refine Below.trans ?_ (Below.mono (by with_reducible assumption) ?_)) | omega | (simp only [World.size_alloc, World.size_setCell, World.size_drew, size_drewN']; omega) | go_size))
              cases bo
              · have HN := Lib.hid (HNO.out fun h => by have := h.2; simp at this)
                go_wp2
                go_roundw
                case rel => exact ⟨q + 1, A2, c2, by omega, by rw [HN.out], by go_num, by rw [HN.out]; exact own3.below hbc, by rw [HN.out]; exact ownU3.below hbc, hbX, by omega⟩
                case measure => simp [intOf]; omega
              · have HN := Lib.hid (HYE.out ⟨HEV.out, rfl⟩)
                have own4 := own3.below hbc
                have ownU4 := ownU3.below hbc
                have hlenm : ((R q).1.map zc).length = (R q).1.length := by simp
                clear own3 ownU3 u1 u2 u3 u4
                rw [← hlenm]
                go_wp2_with (first | (at_builtin; refine wpList_appC1 rfl (.tmp 60) (.tmp 62) rfl B A2 c2 ((R q).1.map zc) (by simp [Act.eval]) (own4.alloc _) (zc (x1, x2)) wc.heap.size rfl (by simp [go_sem]) (by simp [go_sem]) (by simp; omega) (by simp; omega) ?_; intro A5 c5 w5 own5 hb5 hg5; (have hbY : Below B wc w5 := ((Below.refl _ _).alloc (by omega) _).trans hb5); (have ownU5 : OwV w5 w.heap.size (some ⟨w.heap.size, 0, none⟩) nl nl (R q).2 := own_belowB ownU4 (fun p e => by have : w.heap.size = p := (by simpa [Value.ownBlock] using e); omega) hbY); have ci := ownU5.at_ (k := k) hkn; have cq := ownU5.at_ (k := q) (by omega); have fz := ownU5.frozen; have nkq : ¬ (k = q) := (by omega); have nqk : ¬ (q = k) := (by omega)) | fail)
                have ownS := ((ownU5.set k true).1.set q true).1.congr (f' := fun j => j == k || j == q || (R q).2 j) fun j _ => by
                  by_cases ek : j = k
                  · subst ek; by_cases e2 : j = q <;> simp [e2]
                  · by_cases eq : j = q
                    · subst eq; simp
                    · simp [ek, eq]
                have ownT := own_set (own_set own5 (p := ⟨w.heap.size, k, none⟩) hgl (.bool true)) (p := ⟨w.heap.size, q, none⟩) hgl (.bool true)
                have hbZ : Below w.heap.size w ((w5.setCell ⟨w.heap.size, k, none⟩ (.bool true)).setCell ⟨w.heap.size, q, none⟩ (.bool true)) := Below.setCell (Below.setCell (by have z0 := Below.size hbX; have z1 := Below.size hbY; (try simp only [World.size_alloc, World.size_setCell, World.size_drew, size_drewN'] at z0 z1 ⊢; skip); repeat' (first | (with_reducible exact Below.refl _ _) | (with_reducible assumption) | (with_reducible refine Below.alloc ?_ ?_ _) | (with_reducible refine Below.drew ?_) | (with_reducible refine below_drewN ?_ _) | (with_reducible refine Below.setCell ?_ ?_ _) | (with_reducible refine Below.trans ?_ (Below.mono (by with_reducible assumption) ?_)) | omega | (simp only [World.size_alloc, World.size_setCell, World.size_drew, size_drewN']; omega) | go_size)) (p := ⟨w.heap.size, _, none⟩) (by simp) _) (p := ⟨w.heap.size, _, none⟩) (by simp) _
                have hzz : B ≤ ((w5.setCell ⟨w.heap.size, k, none⟩ (.bool true)).setCell ⟨w.heap.size, q, none⟩ (.bool true)).heap.size := by have := hbY.size; simp; omega
                go_roundw
                case rel => exact ⟨q + 1, A5, c5, by omega, by rw [HN.out]; simp, by go_num, by rw [HN.out]; simpa using ownT, by rw [HN.out]; exact ownS, hbZ, hzz⟩
                case measure => simp [intOf]; omega
          · have e3 : ((evN d : Int) != (evN g : Int)) = true := by rw [bne_iff_ne]; exact fun h => hE (by omega)
            have f1 := fun y : Sub wu => y.cell a1
            have f2 := fun y : Sub wu => y.cell a2
            have f3 := fun y : Sub wu => y.cell b1
            have f4 := fun y : Sub wu => y.cell b2
            have HN := Lib.hid (HNO.out fun h => hE h.1)
            clear hE HNO HYE
            generalize evN d = Ed at *
            generalize evN g = Eg at *
            go_wp2
            ((refine wp_region_quiet_bel (by kernel_rfl) (by kernel_rfl) ?_); (repeat (go_big_quiet_step (fail))); (refine wpQuiet_nil ?_); rintro w3 ⟨⟨_, hb3⟩, rfl⟩; (try dsimp only))
            have hb3z := hb3.size
            go_wp2
            go_roundw
            case rel => exact ⟨q + 1, A2, c2, by omega, by rw [HN.out], by go_num, by rw [HN.out]; exact own2.below hb3, by rw [HN.out]; exact ownU2.below hb3, (by have z0 := Below.size hb2; have z1 := Below.size hb3; (try simp only [World.size_alloc, World.size_setCell, World.size_drew, size_drewN'] at z0 z1 ⊢; skip); repeat' (first | (with_reducible exact Below.refl _ _) | (with_reducible assumption) | (with_reducible refine Below.alloc ?_ ?_ _) | (with_reducible refine Below.drew ?_) | (with_reducible refine below_drewN ?_ _) | (with_reducible refine Below.setCell ?_ ?_ _) | (with_reducible refine Below.trans ?_ (Below.mono (by with_reducible assumption) ?_)) | omega | (simp only [World.size_alloc, World.size_setCell, World.size_drew, size_drewN']; omega) | go_size)), by omega⟩
            case measure => simp [intOf]; omega
        · obtain rfl : q = k := by omega
          rw [← HM1.out] at own2 ownU2
          go_wp2
          go_roundw
          case rel => exact ⟨q + 1, A2, c2, by omega, by rw [HM1.out], by go_num, own2, ownU2, hb2, hz2⟩
          case measure => simp [intOf]; omega
    · obtain rfl : k = nl := by omega
      have hzo := hb.size
      have KS := Lib.hid (HSO.out A' c' wo own.rd)
      have HU := Lib.hid ownU
      clear own ownU
      go_wp2_with fail
      refine KS.out.mono ?_
      rintro e w4 ⟨⟨A5, c5, rfl, own5⟩, hb4⟩
      go_wp2_with fail
      go_returns
      exact ⟨⟨A5, c5, w.heap.size, rfl, own5.base_ (by omega), HU.out.below hb4⟩, (by have z0 := Below.size hb; have z1 := Below.size hb4; (try simp only [World.size_alloc, World.size_setCell, World.size_drew, size_drewN'] at z0 z1 ⊢; skip); repeat' (first | (with_reducible exact Below.refl _ _) | (with_reducible assumption) | (with_reducible refine Below.alloc ?_ ?_ _) | (with_reducible refine Below.drew ?_) | (with_reducible refine below_drewN ?_ _) | (with_reducible refine Below.setCell ?_ ?_ _) | (with_reducible refine Below.trans ?_ (Below.mono (by with_reducible assumption) ?_)) | omega | (simp only [World.size_alloc, World.size_setCell, World.size_drew, size_drewN']; omega) | go_size))⟩
end Go.Proofs.Ytedopalmfakeaaa
