/- Contracts of functions and lemmas, used by the proofs of the given statements. No condition beyond those that each lemma names. -/
import Derived.Test.YtedopalmfakeaaaCubeW4
namespace Go.Proofs.Ytedopalmfakeaaa
open Go.RowKit
set_option linter.unusedSimpArgs false
set_option linter.unusedVariables false
/-! ## minus -/
structure MiR (a b : Cn) (w : World) (k : Nat) (x y : Nat) (l : List Cn) (A : Option Addr) (c : Nat) (wr : World) : Prop where
  hk : k ≤ 24
  hs : mto a b k = ((x, y), l)
  own : OwC wr (w.heap.size + 1 + 1) A c (l.map zc)
  a1 : wr.cell? ⟨w.heap.size, 0, none⟩ = some (.int .i64 (x : Nat))
  a2 : wr.cell? ⟨w.heap.size, 1, none⟩ = some (.int .i64 (y : Nat))
  b1 : wr.cell? ⟨w.heap.size + 1, 0, none⟩ = some (.int .i64 (b.1 : Nat))
  b2 : wr.cell? ⟨w.heap.size + 1, 1, none⟩ = some (.int .i64 (b.2 : Nat))
  f1 : wr.frozen? ⟨w.heap.size, 0, none⟩ = false
  f2 : wr.frozen? ⟨w.heap.size, 1, none⟩ = false
  bel : Below w.heap.size w wr
  sz : w.heap.size + 1 + 1 ≤ wr.heap.size
theorem bitp {d k : Nat} (h : d.testBit k = true) : d &&& 2 ^ k = 2 ^ k := by rw [and_pow, if_pos h]
theorem bitn {d k : Nat} (h : d.testBit k = false) : d &&& 2 ^ k = 0 := by rw [and_pow, if_neg (by simp [h])]
theorem shl_eq {k : Nat} (hk : k < 63) : wrap64 ((2 : Int) ^ k) = ((2 ^ k : Nat) : Int) := by
  have h := Nat.pow_lt_pow_right (a := 2) (by omega) hk
  have e : (2 : Int) ^ k = ((2 ^ k : Nat) : Int) := by simp
  rw [e]
  generalize 2 ^ k = p at *
  exact IntWalk.wrap64_in _ (by omega)
theorem own_set {w : World} {base : Nat} {A : Option Addr} {c : Nat} {l : List Cb} (h : OwC w base A c l) {p : Addr} (hp : p.block < base) (u : Value) : OwC (w.setCell p u) base A c l := by
  refine ⟨h.1, ?_⟩
  rcases h.2 with h1 | ⟨g, cap, cur, h1, h2, h3, h4⟩
  · exact .inl h1
  · exact .inr ⟨g, cap, cur, h1, h2, (Below.heap_setCell w p u g (by omega)).trans h3, h4⟩
theorem own_lit {W : World} {base : Nat} {a : Cb} (hb : base ≤ W.heap.size) : OwC (W.alloc (.cells #[.int .i64 a.1, .int .i64 a.2] 23)) base (some ⟨W.heap.size, 0, none⟩) 1 [a] :=
  ⟨rfl, .inr ⟨W.heap.size, 1, #[.int .i64 a.1, .int .i64 a.2], rfl, hb, heap_alloc_new W _, Nat.le_refl _, by unfold maxLen; omega, rfl, rfl⟩⟩
theorem mi_step0 {a b : Cn} {w wr w2 : World} {k x y xp yp : Nat} {l : List Cn} {A A2 : Option Addr} {c c2 : Nat} {e : Cn} {O : Obj} (hR : MiR a b w k x y l A c wr) (hk : k < 24)
    (hs : mto a b (k + 1) = ((xp, y), l ++ [e])) (own : OwC w2 (w.heap.size + 1 + 1) A2 c2 (l.map zc ++ [zc e])) (hb : Below (w.heap.size + 1 + 1) (wr.alloc O) w2) :
    MiR a b w (k + 1) xp y (l ++ [e]) A2 c2 (w2.setCell ⟨w.heap.size, 0, none⟩ (.int .i64 (xp : Nat))) := by
  obtain ⟨_, _, _, a1, a2, b1, b2, f1, f2, bel, sz⟩ := hR
  have bel' : Below (w.heap.size + 1 + 1) wr w2 := ((Below.refl _ wr).alloc (by omega) O).trans hb
  obtain ⟨hd, he⟩ := bcellX bel'
  have z0 : w.heap.size < wr.heap.size := by omega
  have z1 : w.heap.size + 1 < wr.heap.size := by omega
  refine ⟨hk, hs, ?_, ?_, ?_, ?_, ?_, ?_, ?_, ?_, ?_⟩
  · rw [List.map_append]; exact own_set own (p := ⟨w.heap.size, 0, none⟩) (by show w.heap.size < _; omega) (.int .i64 (xp : Nat))
  · exact World.cell?_setCell_same _ _ _ ((hd _ _ (by omega)).trans a1)
  · simp [go_sem, hd, a2]
  · simp [go_sem, hd, b1]
  · simp [go_sem, hd, b2]
  · simp [go_sem, he, f1]
  · simp [go_sem, he, f2]
  · exact (bel.trans (bel'.mono (by omega))).setCell (by show w.heap.size ≤ w.heap.size; omega) _
  · have := bel'.size
    simp
    omega
theorem mi_step1 {a b : Cn} {w wr w2 : World} {k x y xp yp : Nat} {l : List Cn} {A A2 : Option Addr} {c c2 : Nat} {e : Cn} {O : Obj} (hR : MiR a b w k x y l A c wr) (hk : k < 24)
    (hs : mto a b (k + 1) = ((x, yp), l ++ [e])) (own : OwC w2 (w.heap.size + 1 + 1) A2 c2 (l.map zc ++ [zc e])) (hb : Below (w.heap.size + 1 + 1) (wr.alloc O) w2) :
    MiR a b w (k + 1) x yp (l ++ [e]) A2 c2 (w2.setCell ⟨w.heap.size, 1, none⟩ (.int .i64 (yp : Nat))) := by
  obtain ⟨_, _, _, a1, a2, b1, b2, f1, f2, bel, sz⟩ := hR
  have bel' : Below (w.heap.size + 1 + 1) wr w2 := ((Below.refl _ wr).alloc (by omega) O).trans hb
  obtain ⟨hd, he⟩ := bcellX bel'
  have z0 : w.heap.size < wr.heap.size := by omega
  have z1 : w.heap.size + 1 < wr.heap.size := by omega
  refine ⟨hk, hs, ?_, ?_, ?_, ?_, ?_, ?_, ?_, ?_, ?_⟩
  · rw [List.map_append]; exact own_set own (p := ⟨w.heap.size, 1, none⟩) (by show w.heap.size < _; omega) (.int .i64 (yp : Nat))
  · simp [go_sem, hd, a1]
  · exact World.cell?_setCell_same _ _ _ ((hd _ _ (by omega)).trans a2)
  · simp [go_sem, hd, b1]
  · simp [go_sem, hd, b2]
  · simp [go_sem, he, f1]
  · simp [go_sem, he, f2]
  · exact (bel.trans (bel'.mono (by omega))).setCell (by show w.heap.size ≤ w.heap.size; omega) _
  · have := bel'.size
    simp
    omega
set_option maxHeartbeats 1000000 in
theorem minus_no (a b : Cn) (ha : okN a) (hb : okN b) (hp : apN a b = false) (w : World) : Calls Try.prog 73 #[cbv (zc a), cbv (zc b)] w fun e w' => ∃ A c, e = .returned (.slice A (miN a b).length c) ∧ OwC w' w.heap.size A c ((miN a b).map zc) ∧ Below w.heap.size w w' := by
  have HM : Hid (miN a b = (mto a b 24).2) := if_neg (by simp [hp])
  go_enter Try.func73, Try.ntmps73
  go_wp2_with (first | (go_at_call 75; (with_reducible refine (apart_any a b ha hb _).mono ?_); rintro e w1 ⟨rfl, hb1⟩; obtain ⟨hb1c, hb1f⟩ := bcell hb1; have hb1z := Below.size hb1; try simp only [World.size_alloc, World.size_setCell, World.size_drew] at hb1z))
  go_loopw [5, 13] (fun o i wr => ∃ k x y l A c, i = .int .i64 ((k : Nat) : Int) ∧ o = .slice A (List.length l) c ∧ MiR a b w k x y l A c wr) (fun _ i _ => 24 - (intOf i).toNat)
  case atStart =>
    refine ⟨0, a.1, a.2, [], none, 0, rfl, rfl, by omega, rfl, OwC.nil_ _ _, ?_, ?_, ?_, ?_, ?_, ?_, (by have z0 := Below.size hb1; (try simp only [World.size_alloc, World.size_setCell, World.size_drew, size_drewN'] at z0 ⊢; skip); repeat' (first | (with_reducible exact Below.refl _ _) | (with_reducible assumption) | (with_reducible refine Below.alloc ?_ ?_ _) | (with_reducible refine Below.drew ?_) | (with_reducible refine below_drewN ?_ _) | (with_reducible refine Below.setCell ?_ ?_ _) | (with_reducible refine Below.trans ?_ (Below.mono (by with_reducible assumption) ?_)) | omega | (simp only [World.size_alloc, World.size_setCell, World.size_drew, size_drewN']; omega) | go_size)), hb1z⟩
    all_goals simp [hb1c, hb1f, go_sem]
  case round =>
    obtain ⟨k, x, y, l, A, c, rfl, rfl, hR⟩ := hrel
    have HR := Lib.hid hR
    obtain ⟨hk, hs, own, a1, a2, b1, b2, f1, f2, bel, sz⟩ := hR
    have hx := (mto_lt (b := b) ha k hk).1
    have hy := (mto_lt (b := b) ha k hk).2
    have hl := mto_length a b k
    have hst := mto_succ a b k
    rw [hs] at hx hy hl hst
    dsimp only at hx hy hl
    have HS := Lib.hid hs
    have HT := Lib.hid hst
    clear hs hst hb1 hb1c hb1f hb1z
    have z0 : w.heap.size < wr.heap.size := by omega
    have z1 : w.heap.size + 1 < wr.heap.size := by omega
    by_cases hlt : k < 24
    · have hpk := pow_lt24 hlt
      have s1 := shl_eq (k := k) (by omega)
      have e1 := i64_andNot b.1 x (by have := hb.1; omega) (by omega)
      have e2 := i64_andNot b.2 y (by have := hb.2.1; omega) (by omega)
      have d1 : ndiff b.1 x < 16777216 := ndiff_lt24 hb.1
      have d2 : ndiff b.2 y < 16777216 := ndiff_lt24 hb.2.1
      have e3 := i64_and (ndiff b.1 x) (2 ^ k) (by omega) (by omega)
      have e4 := i64_and (ndiff b.2 y) (2 ^ k) (by omega) (by omega)
      have e5 := i64_or x (2 ^ k) (by omega) (by omega)
      have e6 := i64_or y (2 ^ k) (by omega) (by omega)
      have o1 := or_lt24 hx hpk
      have o2 := or_lt24 hy hpk
      have hpos : 0 < 2 ^ k := Nat.two_pow_pos k
      by_cases t1 : (ndiff b.1 x).testBit k = true
      · rw [bitp t1] at e3
        have HX : Hid (mto a b (k + 1) = ((x ||| 2 ^ k, y), l ++ [(x, y ||| 2 ^ k)])) := by
          show mto a b (k + 1) = _
          rw [HT.out, mst, if_pos (by rw [← testBit_ndiff]; exact t1)]
        clear HT HS e4 e2 t1
        generalize 2 ^ k = p at *
        generalize ndiff b.1 x = q at *
        generalize hX : x ||| p = xp at *
        generalize hY : y ||| p = yp at *
        have hne : ((p : Int) != 0) = true := by rw [bne_iff_ne]; omega
        clear hX hY
        go_wp2_with (at_builtin; refine wpList_appC1 rfl (.tmp 27) (.tmp 35) rfl (w.heap.size + 1 + 1) A c (l.map zc) (by simp [Act.eval]) (own.alloc _) (zc (x, yp)) wr.heap.size rfl (by simp [go_sem]) (by simp [go_sem]) (by simp; omega) (by simp; omega) ?_; intro A2 c2 w2 own2 hb2 hg2; obtain ⟨hb2d, hb2e⟩ := bcellX hb2; have hb2z := lt_size hb2)
        go_roundw
        case rel => exact ⟨k + 1, xp, y, l ++ [(x, yp)], A2, c2, by go_num, by simp, mi_step0 (yp := yp) HR.out hlt HX.out own2 hb2⟩
        case measure => simp [intOf]; omega
      · have t1' : (ndiff b.1 x).testBit k = false := by simpa using t1
        rw [bitn t1'] at e3
        by_cases t2 : (ndiff b.2 y).testBit k = true
        · rw [bitp t2] at e4
          have HX : Hid (mto a b (k + 1) = ((x, y ||| 2 ^ k), l ++ [(x ||| 2 ^ k, y)])) := by
            show mto a b (k + 1) = _
            rw [HT.out, mst, if_neg (by rw [← testBit_ndiff]; exact t1), if_pos (by rw [← testBit_ndiff]; exact t2)]
          clear HT HS t1 t1' t2
          generalize 2 ^ k = p at *
          generalize ndiff b.1 x = q at *
          generalize ndiff b.2 y = q2 at *
          generalize hX : x ||| p = xp at *
          generalize hY : y ||| p = yp at *
          have hne : ((p : Int) != 0) = true := by rw [bne_iff_ne]; omega
          clear hX hY
          go_wp2_with (at_builtin; refine wpList_appC1 rfl (.tmp 51) (.tmp 59) rfl (w.heap.size + 1 + 1) A c (l.map zc) (by simp [Act.eval]) (own.alloc _) (zc (xp, y)) wr.heap.size rfl (by simp [go_sem]) (by simp [go_sem]) (by simp; omega) (by simp; omega) ?_; intro A2 c2 w2 own2 hb2 hg2; obtain ⟨hb2d, hb2e⟩ := bcellX hb2; have hb2z := lt_size hb2)
          go_roundw
          case rel => exact ⟨k + 1, x, yp, l ++ [(xp, y)], A2, c2, by go_num, by simp, mi_step1 (xp := xp) HR.out hlt HX.out own2 hb2⟩
          case measure => simp [intOf]; omega
        · have t2' : (ndiff b.2 y).testBit k = false := by simpa using t2
          rw [bitn t2'] at e4
          have HX : Hid (mto a b (k + 1) = ((x, y), l)) := by
            show mto a b (k + 1) = _
            rw [HT.out, mst, if_neg (by rw [← testBit_ndiff]; exact t1), if_neg (by rw [← testBit_ndiff]; exact t2)]
          clear HT HS t1 t1' t2 t2' e5 e6 o1 o2
          generalize 2 ^ k = p at *
          generalize ndiff b.1 x = q at *
          generalize ndiff b.2 y = q2 at *
          go_wp2
          go_roundw
          case rel => exact ⟨k + 1, x, y, l, A, c, by go_num, rfl, hlt, HX.out, own, a1, a2, b1, b2, f1, f2, bel, sz⟩
          case measure => simp [intOf]; omega
    · have hk24 : k = 24 := by omega
      subst hk24
      have HX : Hid (miN a b = l) := by show miN a b = l; rw [HM.out, HS.out]
      clear HS HT HM
      go_wp2
      go_ret
      rw [HX.out]
      exact ⟨A, c, rfl, own.base_ (by omega), bel⟩
set_option maxHeartbeats 400000 in
theorem minus_ap (a b : Cn) (ha : okN a) (hb : okN b) (hp : apN a b = true) (w : World) : Calls Try.prog 73 #[cbv (zc a), cbv (zc b)] w fun e w' => ∃ A c, e = .returned (.slice A (miN a b).length c) ∧ OwC w' w.heap.size A c ((miN a b).map zc) ∧ Below w.heap.size w w' := by
  have HM : Hid (miN a b = [a]) := if_pos hp
  go_enter Try.func73, Try.ntmps73
  go_wp2_with (first | (go_at_call 75; (with_reducible refine (apart_any a b ha hb _).mono ?_); rintro e w1 ⟨rfl, hb1⟩; obtain ⟨hb1c, hb1f⟩ := bcell hb1; have hb1z := Below.size hb1; try simp only [World.size_alloc, World.size_setCell, World.size_drew] at hb1z))
  go_ret
  rw [HM.out]
  exact ⟨some ⟨w1.heap.size, 0, none⟩, 1, rfl, own_lit (by omega), (by have z0 := Below.size hb1; (try simp only [World.size_alloc, World.size_setCell, World.size_drew, size_drewN'] at z0 ⊢; skip); repeat' (first | (with_reducible exact Below.refl _ _) | (with_reducible assumption) | (with_reducible refine Below.alloc ?_ ?_ _) | (with_reducible refine Below.drew ?_) | (with_reducible refine below_drewN ?_ _) | (with_reducible refine Below.setCell ?_ ?_ _) | (with_reducible refine Below.trans ?_ (Below.mono (by with_reducible assumption) ?_)) | omega | (simp only [World.size_alloc, World.size_setCell, World.size_drew, size_drewN']; omega) | go_size))⟩
theorem minus_any (a b : Cn) (ha : okN a) (hb : okN b) (w : World) : Calls Try.prog 73 #[cbv (zc a), cbv (zc b)] w fun e w' => ∃ A c, e = .returned (.slice A (miN a b).length c) ∧ OwC w' w.heap.size A c ((miN a b).map zc) ∧ Below w.heap.size w w' := by
  by_cases hp : apN a b = true
  · exact minus_ap a b ha hb hp w
  · exact minus_no a b ha hb (by simpa using hp) w
end Go.Proofs.Ytedopalmfakeaaa
