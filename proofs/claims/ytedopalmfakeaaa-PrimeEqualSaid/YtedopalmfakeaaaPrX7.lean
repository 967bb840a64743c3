/- Contracts of functions and lemmas, used by the proofs of the given statements. No condition beyond those that each lemma names. -/
import Derived.Test.YtedopalmfakeaaaPrX6
namespace Go.Proofs.Ytedopalmfakeaaa
open Go.RowKit Go.Sort
set_option linter.unusedSimpArgs false
set_option linter.unusedVariables false
set_option maxRecDepth 20000
/-! ## law13: the reference's without, Essential, Irredundant; has -/
attribute [local irreducible] pop popc
theorem erase_take {l : List Cn} {k : Nat} (i : Nat) (hk : k < l.length) : (l.take (k + 1)).eraseIdx i = (l.take k).eraseIdx i ++ if k = i then [] else [atN l k] := by
  rw [List.take_succ_eq_append_getElem hk, ← atN_lt hk]
  have hlen : (l.take k).length = k := by rw [List.length_take]; omega
  rcases Nat.lt_or_ge i k with h | h
  · rw [List.eraseIdx_append_of_lt_length (by omega), if_neg (by omega)]
  · have h2 : (l.take k).eraseIdx i = l.take k := List.eraseIdx_of_length_le (by omega)
    rw [List.eraseIdx_append_of_length_le (by omega), h2, hlen]
    by_cases e : k = i
    · subst e; simp
    · rw [if_neg e]
      obtain ⟨q, hq⟩ : ∃ q, i - k = q + 1 := ⟨i - k - 1, by omega⟩
      rw [hq]; rfl
theorem erase_len (l : List Cn) (i : Nat) : (l.eraseIdx i).length ≤ l.length := List.length_eraseIdx_le _ _
set_option maxHeartbeats 4000000 in
theorem rwithout_any (A : Option Addr) (l : List Cn) (nl c i : Nat) (w : World) (hl : l.length = nl) (hn : nl ≤ 1000000) (hi : i ≤ 1000000) (h : RdC w w.heap.size A (l.map zc)) :
    Calls Try.prog 102 #[.slice A nl c, .int .i64 (i : Int)] w fun e w' => (∃ A' c', e = .returned (.slice A' (l.eraseIdx i).length c') ∧ OwC w' w.heap.size A' c' ((l.eraseIdx i).map zc)) ∧ Below w.heap.size w w' := by
  have HS : Hid (∀ k, k < nl → (l.take (k + 1)).eraseIdx i = (l.take k).eraseIdx i ++ if k = i then [] else [atN l k]) := fun k hk => erase_take i (by omega)
  have HL : Hid (∀ k, ((l.take k).eraseIdx i).length ≤ nl) := fun k => Nat.le_trans (erase_len _ _) (by rw [List.length_take]; omega)
  have HE : Hid (l.eraseIdx i = (l.take nl).eraseIdx i) := by show _ = _; rw [← hl, List.take_length]
  have H0 : Hid ((l.take 0).eraseIdx i = []) := by show _ = _; simp
  obtain ⟨Q, hQ⟩ : ∃ Q : Nat → List Cn, Q = fun k => (l.take k).eraseIdx i := ⟨_, rfl⟩
  have HQ : Hid (∀ k, (l.take k).eraseIdx i = Q k) := fun k => by rw [hQ]
  clear hQ
  simp only [HQ.out] at HS HL HE H0
  rw [HE.out]
  go_enter Try.func102, Try.ntmps102
  go_wp2
  go_loopw [5, 6] (fun o j wr => ∃ (k : Nat) (A' : Option Addr) (c' : Nat), k ≤ nl ∧ o = .slice A' (Q k).length c' ∧ j = .int .i64 k ∧ OwC wr w.heap.size A' c' ((Q k).map zc) ∧ Below w.heap.size w wr) (fun _ j _ => nl - (intOf j).toNat)
  case atStart => exact ⟨0, none, 0, Nat.zero_le _, by rw [H0.out]; rfl, rfl, by rw [H0.out]; exact OwC.nil_ _ _, Below.refl _ _⟩
  case round =>
    obtain ⟨k, A', c', hk, rfl, rfl, own, hb⟩ := hrel
    obtain ⟨wo, rfl⟩ : ∃ wo : World, wo = wr := ⟨_, rfl⟩
    have hlen := HL.out k
    have hbz := hb.size
    by_cases hlt : k < nl
    · by_cases hki : k = i
      · have HX : Hid (Q (k + 1) = Q k) := by show _ = _; rw [HS.out k hlt, if_pos hki, List.append_nil]
        subst hki
        go_wp2
        go_roundw
        case rel => exact ⟨k + 1, A', c', by omega, by rw [HX.out], by go_num, by rw [HX.out]; exact own, hb⟩
        case measure => simp [intOf]; omega
      · have HX : Hid (Q (k + 1) = Q k ++ [atN l k]) := by show _ = _; rw [HS.out k hlt, if_neg hki]
        have e1 : ((k : Int) != (i : Int)) = true := by rw [bne_iff_ne]; omega
        obtain ⟨b, off, rfl, hbb, y1, y2⟩ := (h.below hb).at_ (k := k) (c := zc (atN l k)) (by rw [List.getElem?_map, List.getElem?_eq_getElem (by omega), atN_lt (by omega)]; rfl)
        generalize atN l k = d at *
        obtain ⟨d1, d2⟩ := d
        have HO := Lib.hid own
        have hlm : ((Q k).map zc).length = (Q k).length := by simp
        clear own hki
        rw [← hlm]
        go_wp2_with (first | (at_builtin; refine wpList_appC1 rfl (.tmp 16) (.tmp 21) rfl w.heap.size A' c' ((Q k).map zc) (by simp [Act.eval]) (HO.out.alloc _) (zc (d1, d2)) wo.heap.size rfl (by simp [go_sem]) (by simp [go_sem]) (by simp; omega) (by simp; omega) ?_; intro A5 c5 w5 own5 hb5 hg5) | fail)
        go_roundw
        case rel => exact ⟨k + 1, A5, c5, by omega, by rw [HX.out]; simp, by go_num, by rw [HX.out]; simpa using own5, (by have z0 := Below.size hb; have z1 := Below.size hb5; (try simp only [World.size_alloc, World.size_setCell, World.size_drew, size_drewN'] at z0 z1 ⊢; skip); repeat' (first | (with_reducible exact Below.refl _ _) | (with_reducible assumption) | (with_reducible refine Below.alloc ?_ ?_ _) | (with_reducible refine Below.drew ?_) | (with_reducible refine below_drewN ?_ _) | (with_reducible refine Below.setCell ?_ ?_ _) | (with_reducible refine Below.trans ?_ (Below.mono (by with_reducible assumption) ?_)) | omega | (simp only [World.size_alloc, World.size_setCell, World.size_drew, size_drewN']; omega) | go_size))⟩
        case measure => simp [intOf]; omega
    · obtain rfl : k = nl := by omega
      go_wp2
      go_returns
      exact ⟨⟨A', c', rfl, own⟩, hb⟩
theorem refCov (A : Option Addr) (l : List Cn) (nl q : Nat) (c : Cn) (w : World) (hc : okN c) (hok : ∀ a ∈ l, okN a) (hl : l.length = nl) (hn : nl ≤ 1048576) (h : RdC w w.heap.size A (l.map zc)) :
    Calls Try.prog 40 #[.slice A nl q, cbv (zc c)] w fun e w' => e = .returned (.bool (covB l c)) ∧ Below w.heap.size w w' :=
  refCovers_any _ A l nl q c w rfl hc hok hl hn h
set_option maxHeartbeats 4000000 in
theorem ress13_any (A : Option Addr) (l : List Cn) (nl c : Nat) (w : World) (hl : l.length = nl) (hn : nl ≤ 1024) (hok : ∀ a ∈ l, okN a) (h : RdC w w.heap.size A (l.map zc)) :
    Calls Try.prog 62 #[.slice A nl c] w fun e w' => (∃ A' c', e = .returned (.slice A' (essN l).length c') ∧ OwC w' w.heap.size A' c' ((essN l).map zc)) ∧ Below w.heap.size w w' := by
  have HOK := Lib.hid hok
  have HES := Lib.hid (essK_succ l)
  have HEL := Lib.hid (essK_len l)
  have HE0 : Hid (essK l 0 = []) := rfl
  have HEN : Hid (essN l = essK l nl) := by show _ = _; rw [← hl]; rfl
  rw [HEN.out]
  generalize essK l = Q at *
  clear hok
  go_enter Try.func62, Try.ntmps62
  go_wp2
  go_loopw [3, 4] (fun o j wr => ∃ (k : Nat) (A' : Option Addr) (c' : Nat), k ≤ nl ∧ o = .slice A' (Q k).length c' ∧ j = .int .i64 k ∧ OwC wr w.heap.size A' c' ((Q k).map zc) ∧ Below w.heap.size w wr) (fun _ j _ => nl - (intOf j).toNat)
  case atStart => exact ⟨0, none, 0, Nat.zero_le _, by rw [HE0.out]; rfl, rfl, by rw [HE0.out]; exact OwC.nil_ _ _, Below.refl _ _⟩
  case round =>
    obtain ⟨k, A', c', hk, rfl, rfl, own, hb⟩ := hrel
    obtain ⟨wo, rfl⟩ : ∃ wo : World, wo = wr := ⟨_, rfl⟩
    have hlen := HEL.out k
    have hbz := hb.size
    by_cases hlt : k < nl
    · have HX := Lib.hid (HES.out k)
      have hd := HOK.out _ (atN_mem (l := l) (i := k) (by omega))
      obtain ⟨b, off, rfl, hbb, y1, y2⟩ := (h.below hb).at_ (k := k) (c := zc (atN l k)) (by rw [List.getElem?_map, List.getElem?_eq_getElem (by omega), atN_lt (by omega)]; rfl)
      have K1 := Lib.hid (fun W (hW : Below wo.heap.size wo W) => rwithout_any (some ⟨b, off, none⟩) l nl c k W hl (by omega) (by omega) (h.on (hb.trans (hW.mono (by omega))) (by have := hW.size; omega)))
      have hel : (l.eraseIdx k).length ≤ 1024 := Nat.le_trans (erase_len l k) (by omega)
      have HEO : Hid (∀ a ∈ l.eraseIdx k, okN a) := fun a ha => HOK.out a (mem_erase ha)
      generalize l.eraseIdx k = el at *
      generalize atN l k = d at *
      have K2 := Lib.hid (fun W A4 c4 (hr : RdC W W.heap.size A4 (el.map zc)) => refCov A4 el el.length c4 d W hd HEO.out rfl (by omega) hr)
      generalize covB el d = bv at *
      obtain ⟨d1, d2⟩ := d
      have HO := Lib.hid own
      have i1 : (0 : Int) ≤ (k : Int) := by omega
      have i2 : (k : Int) < (nl : Int) := by omega
      have hbl : b < wo.heap.size := by omega
      clear own hd
      go_wp2
      go_region_held3 (fun W => W.cell? ⟨b, off + k * 2, none⟩ = some (.int .i64 (d1 : Int)) ∧ W.cell? ⟨b, off + k * 2 + 1, none⟩ = some (.int .i64 (d2 : Int))) (go_keep)
        (first | ((go_at_call 102; (with_reducible refine (K1.out _ (by (skip); repeat' (first | (with_reducible exact Below.refl _ _) | (with_reducible assumption) | (with_reducible refine Below.alloc ?_ ?_ _) | (with_reducible refine Below.drew ?_) | (with_reducible refine below_drewN ?_ _) | (with_reducible refine Below.setCell ?_ ?_ _) | (with_reducible refine Below.trans ?_ (Below.mono (by with_reducible assumption) ?_)) | omega | (simp only [World.size_alloc, World.size_setCell, World.size_drew, size_drewN']; omega) | go_size))).mono ?_); rintro e w4 ⟨⟨A4, c4, rfl, own4⟩, hb4⟩; have hb4z := Below.size hb4; (try simp only [World.size_alloc, World.size_setCell, World.size_drew] at hb4z); have hb4c0 := fun o => below_at hb4 (b) o (by first | omega | (simp only [World.size_alloc, World.size_setCell, World.size_drew]; omega)); have hb4f0 := fun o => below_fr hb4 (b) o (by first | omega | (simp only [World.size_alloc, World.size_setCell, World.size_drew]; omega)); have hb4l0 : b < (w4).heap.size := (by omega))) | ((go_at_call 40; (with_reducible refine (K2.out _ _ _ own4.rd).mono ?_); rintro e w5 ⟨rfl, hb5⟩; have hb5z := Below.size hb5; (try simp only [World.size_alloc, World.size_setCell, World.size_drew] at hb5z); have hb5c0 := fun o => below_at hb5 (b) o (by first | omega | (simp only [World.size_alloc, World.size_setCell, World.size_drew]; omega)); have hb5f0 := fun o => below_fr hb5 (b) o (by first | omega | (simp only [World.size_alloc, World.size_setCell, World.size_drew]; omega)); have hb5l0 : b < (w5).heap.size := (by omega))) | fail)
      have hbX : Below wo.heap.size wo w5 := (by have z0 := Below.size hb4; have z1 := Below.size hb5; (try simp only [World.size_alloc, World.size_setCell, World.size_drew, size_drewN'] at z0 z1 ⊢; skip); repeat' (first | (with_reducible exact Below.refl _ _) | (with_reducible assumption) | (with_reducible refine Below.alloc ?_ ?_ _) | (with_reducible refine Below.drew ?_) | (with_reducible refine below_drewN ?_ _) | (with_reducible refine Below.setCell ?_ ?_ _) | (with_reducible refine Below.trans ?_ (Below.mono (by with_reducible assumption) ?_)) | omega | (simp only [World.size_alloc, World.size_setCell, World.size_drew, size_drewN']; omega) | go_size))
      have hbXz := hbX.size
      have own5 := HO.out.below hbX
      have v1 := (below_at hbX b _ hbl).trans y1
      have v2 := (below_at hbX b _ hbl).trans y2
      clear own4 K1 K2 hb4 hb5
      cases bv
      · have HY : Hid (Q (k + 1) = Q k ++ [(d1, d2)]) := by show _ = _; rw [HX.out, if_neg (by decide)]
        have hlm : ((Q k).map zc).length = (Q k).length := by simp
        clear HX
        rw [← hlm]
        go_wp2_with (first | (at_builtin; refine wpList_appC1 rfl (.tmp 20) (.tmp 25) rfl w.heap.size A' c' ((Q k).map zc) (by simp [Act.eval]) (own5.alloc _) (zc (d1, d2)) w5.heap.size rfl (by simp [go_sem]) (by simp [go_sem]) (by simp; omega) (by simp; omega) ?_; intro A7 c7 w7 own7 hb7 hg7) | fail)
        go_roundw
        case rel => exact ⟨k + 1, A7, c7, by omega, by rw [HY.out]; simp, by go_num, by rw [HY.out]; simpa using own7, (by have z0 := Below.size hb; have z1 := Below.size hbX; have z2 := Below.size hb7; (try simp only [World.size_alloc, World.size_setCell, World.size_drew, size_drewN'] at z0 z1 z2 ⊢; skip); repeat' (first | (with_reducible exact Below.refl _ _) | (with_reducible assumption) | (with_reducible refine Below.alloc ?_ ?_ _) | (with_reducible refine Below.drew ?_) | (with_reducible refine below_drewN ?_ _) | (with_reducible refine Below.setCell ?_ ?_ _) | (with_reducible refine Below.trans ?_ (Below.mono (by with_reducible assumption) ?_)) | omega | (simp only [World.size_alloc, World.size_setCell, World.size_drew, size_drewN']; omega) | go_size))⟩
        case measure => simp [intOf]; omega
      · have HY : Hid (Q (k + 1) = Q k) := by show _ = _; rw [HX.out, if_pos rfl, List.append_nil]
        clear HX
        go_wp2
        go_roundw
        case rel => exact ⟨k + 1, A', c', by omega, by rw [HY.out], by go_num, by rw [HY.out]; exact own5, (by have z0 := Below.size hb; have z1 := Below.size hbX; (try simp only [World.size_alloc, World.size_setCell, World.size_drew, size_drewN'] at z0 z1 ⊢; skip); repeat' (first | (with_reducible exact Below.refl _ _) | (with_reducible assumption) | (with_reducible refine Below.alloc ?_ ?_ _) | (with_reducible refine Below.drew ?_) | (with_reducible refine below_drewN ?_ _) | (with_reducible refine Below.setCell ?_ ?_ _) | (with_reducible refine Below.trans ?_ (Below.mono (by with_reducible assumption) ?_)) | omega | (simp only [World.size_alloc, World.size_setCell, World.size_drew, size_drewN']; omega) | go_size))⟩
        case measure => simp [intOf]; omega
    · obtain rfl : k = nl := by omega
      go_wp2
      go_returns
      exact ⟨⟨A', c', rfl, own⟩, hb⟩
theorem irrS (j : Nat) (m : List Cn) : irrN (j + 1) m = irrN j (if covB (m.eraseIdx j) (atN m j) then m.eraseIdx j else m) := rfl
set_option maxHeartbeats 4000000 in
theorem rirr13_any (A : Option Addr) (l : List Cn) (nl c : Nat) (w : World) (hl : l.length = nl) (hn : nl ≤ 1024) (hok : ∀ a ∈ l, okN a) (h : RdC w w.heap.size A (l.map zc)) :
    Calls Try.prog 63 #[.slice A nl c] w fun e w' => (∃ A' c', e = .returned (.slice A' (irrN nl l).length c') ∧ RdC w' w'.heap.size A' ((irrN nl l).map zc)) ∧ Below w.heap.size w w' := by
  have HOK := Lib.hid hok
  generalize hI : irrN nl l = I at *
  have HI := Lib.hid hI
  clear hok hI
  go_enter Try.func63, Try.ntmps63
  go_wp2
  go_loopw [3, 4] (fun o j wr => ∃ (k : Nat) (z : Int) (m : List Cn) (A' : Option Addr) (c' : Nat), k ≤ nl ∧ z = (k : Int) - 1 ∧ o = .slice A' m.length c' ∧ j = .int .i64 z ∧ (irrN k m = I ∧ (∀ q, q < k → atN m q = atN l q) ∧ (∀ d, d ∈ m → okN d)) ∧ k ≤ m.length ∧ m.length ≤ nl ∧ RdC wr wr.heap.size A' (m.map zc) ∧ Below w.heap.size w wr) (fun _ j _ => (intOf j + 1).toNat)
  case atStart => exact ⟨nl, (nl : Int) - 1, l, A, c, Nat.le_refl _, rfl, by rw [hl], by first | rfl | go_num | (simp; done), ⟨HI.out, fun q hq => rfl, HOK.out⟩, by omega, by omega, h, Below.refl _ _⟩
  case round =>
    obtain ⟨k, z, m, A', c', hk, hz, rfl, rfl, hm, hkm, hmn, rd, hb⟩ := hrel
    have HM := Lib.hid hm
    clear hm
    obtain ⟨wo, rfl⟩ : ∃ wo : World, wo = wr := ⟨_, rfl⟩
    have hbz := hb.size
    by_cases hk0 : 0 < k
    · obtain ⟨j, rfl⟩ : ∃ j, k = j + 1 := ⟨k - 1, by omega⟩
      obtain rfl : z = (j : Int) := by omega
      have hjl : j < l.length := by omega
      have HAT := Lib.hid (HM.out.2.1 j (by omega))
      have hd := HOK.out _ (atN_mem hjl)
      obtain ⟨b, off, rfl, hbb, y1, y2⟩ := (h.below hb).at_ (k := j) (c := zc (atN l j)) (by rw [List.getElem?_map, List.getElem?_eq_getElem hjl, atN_lt hjl]; rfl)
      have K1 := Lib.hid (fun W (hW : Below wo.heap.size wo W) => rwithout_any A' m m.length c' j W rfl (by omega) (by omega) (rd.on hW (by have := hW.size; omega)))
      have hel : (m.eraseIdx j).length ≤ nl := Nat.le_trans (erase_len m j) hmn
      have hel2 : j ≤ (m.eraseIdx j).length := by rw [List.length_eraseIdx]; split <;> omega
      have HEO : Hid (∀ a ∈ m.eraseIdx j, okN a) := fun a ha => HM.out.2.2 a (mem_erase ha)
      have HEA : Hid (∀ q, q < j → atN (m.eraseIdx j) q = atN l q) := fun q hq => (atN_erase hq).trans (HM.out.2.1 q (by omega))
      have HIS : Hid (irrN j (if covB (m.eraseIdx j) (atN l j) then m.eraseIdx j else m) = I) := by
        show _ = _
        rw [← HAT.out, ← irrS]
        exact HM.out.1
      clear HAT
      generalize m.eraseIdx j = el at *
      generalize atN l j = d at *
      have K2 := Lib.hid (fun W A4 c4 (hr : RdC W W.heap.size A4 (el.map zc)) => refCov A4 el el.length c4 d W hd HEO.out rfl (by omega) hr)
      generalize covB el d = bv at *
      obtain ⟨d1, d2⟩ := d
      have i1 : (0 : Int) ≤ (j : Int) := by omega
      have i2 : (j : Int) < (nl : Int) := by omega
      have hbl : b < wo.heap.size := by omega
      have HRD := Lib.hid rd
      clear rd hd hz
      go_wp2
      go_region_held3 (fun W => W.cell? ⟨b, off + j * 2, none⟩ = some (.int .i64 (d1 : Int)) ∧ W.cell? ⟨b, off + j * 2 + 1, none⟩ = some (.int .i64 (d2 : Int))) (go_keep)
        (first | ((go_at_call 102; (with_reducible refine (K1.out _ (by (skip); repeat' (first | (with_reducible exact Below.refl _ _) | (with_reducible assumption) | (with_reducible refine Below.alloc ?_ ?_ _) | (with_reducible refine Below.drew ?_) | (with_reducible refine below_drewN ?_ _) | (with_reducible refine Below.setCell ?_ ?_ _) | (with_reducible refine Below.trans ?_ (Below.mono (by with_reducible assumption) ?_)) | omega | (simp only [World.size_alloc, World.size_setCell, World.size_drew, size_drewN']; omega) | go_size))).mono ?_); rintro e w4 ⟨⟨A4, c4, rfl, own4⟩, hb4⟩; have hb4z := Below.size hb4; (try simp only [World.size_alloc, World.size_setCell, World.size_drew] at hb4z); have hb4c0 := fun o => below_at hb4 (b) o (by first | omega | (simp only [World.size_alloc, World.size_setCell, World.size_drew]; omega)); have hb4f0 := fun o => below_fr hb4 (b) o (by first | omega | (simp only [World.size_alloc, World.size_setCell, World.size_drew]; omega)); have hb4l0 : b < (w4).heap.size := (by omega))) | ((go_at_call 40; (with_reducible refine (K2.out _ _ _ own4.rd).mono ?_); rintro e w5 ⟨rfl, hb5⟩; have hb5z := Below.size hb5; (try simp only [World.size_alloc, World.size_setCell, World.size_drew] at hb5z); have hb5c0 := fun o => below_at hb5 (b) o (by first | omega | (simp only [World.size_alloc, World.size_setCell, World.size_drew]; omega)); have hb5f0 := fun o => below_fr hb5 (b) o (by first | omega | (simp only [World.size_alloc, World.size_setCell, World.size_drew]; omega)); have hb5l0 : b < (w5).heap.size := (by omega))) | fail)
      have hbX : Below wo.heap.size wo w5 := (by have z0 := Below.size hb4; have z1 := Below.size hb5; (try simp only [World.size_alloc, World.size_setCell, World.size_drew, size_drewN'] at z0 z1 ⊢; skip); repeat' (first | (with_reducible exact Below.refl _ _) | (with_reducible assumption) | (with_reducible refine Below.alloc ?_ ?_ _) | (with_reducible refine Below.drew ?_) | (with_reducible refine below_drewN ?_ _) | (with_reducible refine Below.setCell ?_ ?_ _) | (with_reducible refine Below.trans ?_ (Below.mono (by with_reducible assumption) ?_)) | omega | (simp only [World.size_alloc, World.size_setCell, World.size_drew, size_drewN']; omega) | go_size))
      have hbXz := hbX.size
      clear own4 K2 y1 y2 hb4 hb5
      cases bv
      · have HI2 : Hid (irrN j m = I) := HIS.out
        clear HIS
        go_wp2
        go_roundw
        case rel => exact ⟨j, (j : Int) - 1, m, A', c', by omega, rfl, rfl, by go_num, ⟨HI2.out, fun q hq => HM.out.2.1 q (by omega), HM.out.2.2⟩, by omega, hmn, HRD.out.on hbX hbXz, (by have z0 := Below.size hb; have z1 := Below.size hbX; (try simp only [World.size_alloc, World.size_setCell, World.size_drew, size_drewN'] at z0 z1 ⊢; skip); repeat' (first | (with_reducible exact Below.refl _ _) | (with_reducible assumption) | (with_reducible refine Below.alloc ?_ ?_ _) | (with_reducible refine Below.drew ?_) | (with_reducible refine below_drewN ?_ _) | (with_reducible refine Below.setCell ?_ ?_ _) | (with_reducible refine Below.trans ?_ (Below.mono (by with_reducible assumption) ?_)) | omega | (simp only [World.size_alloc, World.size_setCell, World.size_drew, size_drewN']; omega) | go_size))⟩
        case measure => first | (simp [intOf]; done) | (simp [intOf]; omega)
      · have HI2 : Hid (irrN j el = I) := HIS.out
        clear HIS
        go_wp2_with fail
        refine (K1.out _ hbX).mono ?_
        rintro e w6 ⟨⟨A6, c6, rfl, own6⟩, hb6⟩
        have rd6 := own6.rd
        clear own6
        go_wp2_with fail
        go_roundw
        case rel => exact ⟨j, (j : Int) - 1, el, A6, c6, by omega, rfl, rfl, by go_num, ⟨HI2.out, HEA.out, HEO.out⟩, hel2, hel, rd6, (by have z0 := Below.size hb; have z1 := Below.size hbX; have z2 := Below.size hb6; (try simp only [World.size_alloc, World.size_setCell, World.size_drew, size_drewN'] at z0 z1 z2 ⊢; skip); repeat' (first | (with_reducible exact Below.refl _ _) | (with_reducible assumption) | (with_reducible refine Below.alloc ?_ ?_ _) | (with_reducible refine Below.drew ?_) | (with_reducible refine below_drewN ?_ _) | (with_reducible refine Below.setCell ?_ ?_ _) | (with_reducible refine Below.trans ?_ (Below.mono (by with_reducible assumption) ?_)) | omega | (simp only [World.size_alloc, World.size_setCell, World.size_drew, size_drewN']; omega) | go_size))⟩
        case measure => first | (simp [intOf]; done) | (simp [intOf]; omega)
    · obtain rfl : k = 0 := by omega
      obtain rfl : z = -1 := by omega
      have HI2 : Hid (m = I) := HM.out.1
      clear hz hk0 hkm hk
      go_wp2
      go_returns
      exact ⟨⟨A', c', by rw [← HI2.out]; rfl, by rw [← HI2.out]; exact rd⟩, hb⟩
set_option maxHeartbeats 4000000 in
theorem has13_any (A : Option Addr) (l : List Cn) (nl q : Nat) (c : Cn) (w : World) (hl : l.length = nl) (hn : nl ≤ 1000000) (h : RdC w w.heap.size A (l.map zc)) :
    Calls Try.prog 70 #[.slice A nl q, cbv (zc c)] w fun e w' => (∃ b, e = .returned (.bool b) ∧ (b = true ↔ c ∈ l)) ∧ Below w.heap.size w w' := by
  obtain ⟨c1, c2⟩ := c
  go_enter Try.func70, Try.ntmps70
  go_wp2
  have x0 : (w.alloc (.cells #[.int .i64 (c1 : Int), .int .i64 (c2 : Int)] 23)).cell? ⟨w.heap.size, 0, none⟩ = some (.int .i64 (c1 : Int)) := by simp [go_sem]
  have x1 : (w.alloc (.cells #[.int .i64 (c1 : Int), .int .i64 (c2 : Int)] 23)).cell? ⟨w.heap.size, 1, none⟩ = some (.int .i64 (c2 : Int)) := by simp [go_sem]
  have hb0 : Below w.heap.size w (w.alloc (.cells #[.int .i64 (c1 : Int), .int .i64 (c2 : Int)] 23)) := (by (skip); repeat' (first | (with_reducible exact Below.refl _ _) | (with_reducible assumption) | (with_reducible refine Below.alloc ?_ ?_ _) | (with_reducible refine Below.drew ?_) | (with_reducible refine below_drewN ?_ _) | (with_reducible refine Below.setCell ?_ ?_ _) | (with_reducible refine Below.trans ?_ (Below.mono (by with_reducible assumption) ?_)) | omega | (simp only [World.size_alloc, World.size_setCell, World.size_drew, size_drewN']; omega) | go_size))
  have hz0 : w.heap.size < (w.alloc (.cells #[.int .i64 (c1 : Int), .int .i64 (c2 : Int)] 23)).heap.size := by simp
  obtain ⟨W0, hW0⟩ : ∃ W0, W0 = w.alloc (.cells #[.int .i64 (c1 : Int), .int .i64 (c2 : Int)] 23) := ⟨_, rfl⟩
  rw [← hW0] at x0 x1 hb0 hz0 ⊢
  clear hW0
  go_loopw [5] (fun j wr => ∃ k : Nat, k ≤ nl ∧ j = .int .i64 k ∧ (∀ q, q < k → atN l q ≠ (c1, c2)) ∧ Below W0.heap.size W0 wr) (fun j _ => nl - (intOf j).toNat)
  case atStart => exact ⟨0, Nat.zero_le _, rfl, fun q hq => by omega, Below.refl _ _⟩
  case round =>
    obtain ⟨k, hk, rfl, hne, hb⟩ := hrel
    have HN := Lib.hid hne
    clear hne
    obtain ⟨wo, rfl⟩ : ∃ wo : World, wo = wr := ⟨_, rfl⟩
    have hbW : Below w.heap.size w wo := hb0.trans (hb.mono (by omega))
    by_cases hlt : k < nl
    · obtain ⟨b, off, rfl, hbb, y1, y2⟩ := (h.below hbW).at_ (k := k) (c := zc (atN l k)) (by rw [List.getElem?_map, List.getElem?_eq_getElem (by omega), atN_lt (by omega)]; rfl)
      have HMEM := Lib.hid (atN_mem (l := l) (i := k) (by omega))
      have HE : Hid (atN l k ≠ (c1, c2) → ∀ q, q < k + 1 → atN l q ≠ (c1, c2)) := fun h0 q hq => by
        rcases Nat.lt_or_ge q k with h1 | h1
        · exact HN.out q h1
        · have : q = k := by omega
          subst this; exact h0
      generalize atN l k = d at *
      obtain ⟨d1, d2⟩ := d
      have u0 := (below_at hb w.heap.size 0 hz0).trans x0
      have u1 := (below_at hb w.heap.size 1 hz0).trans x1
      have f0 := fun y : Sub wo => y.cell y1
      have f1 := fun y : Sub wo => y.cell y2
      have f2 := fun y : Sub wo => y.cell u0
      have f3 := fun y : Sub wo => y.cell u1
      have i1 : (0 : Int) ≤ (k : Int) := by omega
      have i2 : (k : Int) < (nl : Int) := by omega
      by_cases h1 : d1 = c1
      · by_cases h2 : d2 = c2
        · have e1 : ((d1 : Int) == (c1 : Int)) = true := by simp [h1]
          have e2 : ((d2 : Int) == (c2 : Int)) = true := by simp [h2]
          have HM2 : Hid ((c1, c2) ∈ l) := by have := HMEM.out; rwa [h1, h2] at this
          clear h1 h2 HE HMEM
          go_wp2
          ((refine wp_region_quiet_bel (by kernel_rfl) (by kernel_rfl) ?_); (repeat (go_big_quiet_step (fail))); (refine wpQuiet_nil ?_); rintro w4 ⟨⟨_, hb4⟩, rfl⟩; (try dsimp only))
          go_wp2
          go_returns
          exact ⟨⟨true, rfl, ⟨fun _ => HM2.out, fun _ => rfl⟩⟩, (by have z0 := Below.size hbW; have z1 := Below.size hb4; (try simp only [World.size_alloc, World.size_setCell, World.size_drew, size_drewN'] at z0 z1 ⊢; skip); repeat' (first | (with_reducible exact Below.refl _ _) | (with_reducible assumption) | (with_reducible refine Below.alloc ?_ ?_ _) | (with_reducible refine Below.drew ?_) | (with_reducible refine below_drewN ?_ _) | (with_reducible refine Below.setCell ?_ ?_ _) | (with_reducible refine Below.trans ?_ (Below.mono (by with_reducible assumption) ?_)) | omega | (simp only [World.size_alloc, World.size_setCell, World.size_drew, size_drewN']; omega) | go_size))⟩
        · have e1 : ((d1 : Int) == (c1 : Int)) = true := by simp [h1]
          have e2 : ((d2 : Int) == (c2 : Int)) = false := by simp; omega
          have HE2 := Lib.hid (HE.out fun e => h2 (congrArg Prod.snd e))
          clear h1 h2 HE HMEM
          go_wp2
          ((refine wp_region_quiet_bel (by kernel_rfl) (by kernel_rfl) ?_); (repeat (go_big_quiet_step (fail))); (refine wpQuiet_nil ?_); rintro w4 ⟨⟨_, hb4⟩, rfl⟩; (try dsimp only))
          go_wp2
          go_roundw
          case rel => exact ⟨k + 1, by omega, by go_num, HE2.out, (by have z0 := Below.size hb; have z1 := Below.size hb4; (try simp only [World.size_alloc, World.size_setCell, World.size_drew, size_drewN'] at z0 z1 ⊢; skip); repeat' (first | (with_reducible exact Below.refl _ _) | (with_reducible assumption) | (with_reducible refine Below.alloc ?_ ?_ _) | (with_reducible refine Below.drew ?_) | (with_reducible refine below_drewN ?_ _) | (with_reducible refine Below.setCell ?_ ?_ _) | (with_reducible refine Below.trans ?_ (Below.mono (by with_reducible assumption) ?_)) | omega | (simp only [World.size_alloc, World.size_setCell, World.size_drew, size_drewN']; omega) | go_size))⟩
          case measure => simp [intOf]; omega
      · have e1 : ((d1 : Int) == (c1 : Int)) = false := by simp; omega
        have HE2 := Lib.hid (HE.out fun e => h1 (congrArg Prod.fst e))
        clear h1 HE HMEM
        go_wp2
        ((refine wp_region_quiet_bel (by kernel_rfl) (by kernel_rfl) ?_); (repeat (go_big_quiet_step (fail))); (refine wpQuiet_nil ?_); rintro w4 ⟨⟨_, hb4⟩, rfl⟩; (try dsimp only))
        go_wp2
        go_roundw
        case rel => exact ⟨k + 1, by omega, by go_num, HE2.out, (by have z0 := Below.size hb; have z1 := Below.size hb4; (try simp only [World.size_alloc, World.size_setCell, World.size_drew, size_drewN'] at z0 z1 ⊢; skip); repeat' (first | (with_reducible exact Below.refl _ _) | (with_reducible assumption) | (with_reducible refine Below.alloc ?_ ?_ _) | (with_reducible refine Below.drew ?_) | (with_reducible refine below_drewN ?_ _) | (with_reducible refine Below.setCell ?_ ?_ _) | (with_reducible refine Below.trans ?_ (Below.mono (by with_reducible assumption) ?_)) | omega | (simp only [World.size_alloc, World.size_setCell, World.size_drew, size_drewN']; omega) | go_size))⟩
        case measure => simp [intOf]; omega
    · have HE2 : Hid (¬ (c1, c2) ∈ l) := fun hm => by
        obtain ⟨i, hi, e⟩ := mem_atN hm
        exact HN.out i (by omega) e
      go_wp2
      go_returns
      exact ⟨⟨false, rfl, ⟨fun h => by simp at h, fun h => absurd h HE2.out⟩⟩, hbW⟩
end Go.Proofs.Ytedopalmfakeaaa
