/- Contracts of functions and lemmas, used by the proofs of the given statements. No condition beyond those that each lemma names. -/
import Derived.Test.YtedopalmfakeaaaCubeW5
namespace Go.Proofs.Ytedopalmfakeaaa
open Go.RowKit
set_option linter.unusedSimpArgs false
set_option linter.unusedVariables false
/-! ## the reference's Minus -/
theorem tb0 {x y : Nat} (h : x &&& y = 0) (i : Nat) : ¬ (x.testBit i = true ∧ y.testBit i = true) := by
  intro ⟨h1, h2⟩
  have := congrArg (fun z => Nat.testBit z i) h
  simp [h1, h2] at this
theorem apN_f {a b : Cn} (h : apN a b = false) : a.1 &&& b.2 = 0 ∧ a.2 &&& b.1 = 0 := by
  have : (a.1 &&& b.2 ||| a.2 &&& b.1) = 0 := by simpa [apN] using h
  exact Nat.or_eq_zero_iff.1 this
/-- while minus goes on: what has been set are events of b, on b's own side -/
theorem mto_side {a b : Cn} (hb : okN b) (hp : apN a b = false) (k i : Nat) :
    ¬ ((mto a b k).1.1.testBit i = true ∧ b.2.testBit i = true) ∧ ¬ ((mto a b k).1.2.testBit i = true ∧ b.1.testBit i = true) := by
  induction k with
  | zero => exact ⟨tb0 (apN_f hp).1 i, tb0 (apN_f hp).2 i⟩
  | succ k ih =>
    have hbb := tb0 hb.2.2 i
    rw [mto_succ]; unfold mst
    split
    · rename_i h
      refine ⟨?_, ih.2⟩
      rintro ⟨h1, h2⟩
      rw [Nat.testBit_or, Nat.testBit_two_pow] at h1
      by_cases hki : k = i
      · subst hki
        simp at h
        exact hbb ⟨h.1, h2⟩
      · simp [hki] at h1
        exact ih.1 ⟨h1, h2⟩
    · split
      · rename_i h
        refine ⟨ih.1, ?_⟩
        rintro ⟨h1, h2⟩
        rw [Nat.testBit_or, Nat.testBit_two_pow] at h1
        by_cases hki : k = i
        · subst hki
          simp at h
          exact hbb ⟨h2, h.1⟩
        · simp [hki] at h1
          exact ih.2 ⟨h1, h2⟩
      · exact ih
theorem bl1 : ∀ {x y p q : Bool}, (x || y) = true → ¬ (x = true ∧ q = true) ∧ ¬ (y = true ∧ p = true) → ¬ (p && !x) = true ∧ ¬ (q && !y) = true := by decide
theorem bl2 : ∀ {x y : Bool}, (x || y) = false → x = false ∧ y = false := by decide
theorem bl3 : ∀ {p q : Bool}, ¬ (p = true ∧ q = true) → p = true → q = false := by decide
set_option maxHeartbeats 1000000 in
theorem refMinus_no (a b : Cn) (ha : okN a) (hb : okN b) (hp : apN a b = false) (w : World) : Calls Try.prog 35 #[cbv (zc a), cbv (zc b)] w fun e w' => ∃ A c, e = .returned (.slice A (miN a b).length c) ∧ OwC w' w.heap.size A c ((miN a b).map zc) ∧ Below w.heap.size w w' := by
  have HM : Hid (miN a b = (mto a b 24).2) := if_neg (by simp [hp])
  go_enter Try.func35, Try.ntmps35
  go_wp2_with (first | (go_at_call 77; (with_reducible refine (refMeets_any a b ha hb _).mono ?_); rintro e w1 ⟨rfl, hb1⟩; obtain ⟨hb1c, hb1f⟩ := bcell hb1; have hb1z := Below.size hb1; try simp only [World.size_alloc, World.size_setCell, World.size_drew] at hb1z))
  go_loopw [5, 6] (fun o i wr => ∃ k x y l A c, i = .int .i64 ((k : Nat) : Int) ∧ o = .slice A (List.length l) c ∧ MiR a b w k x y l A c wr) (fun _ i _ => 24 - (intOf i).toNat)
  case atStart =>
    refine ⟨0, a.1, a.2, [], none, 0, rfl, rfl, by omega, rfl, OwC.nil_ _ _, ?_, ?_, ?_, ?_, ?_, ?_, (by have z0 := Below.size hb1; (try simp only [World.size_alloc, World.size_setCell, World.size_drew, size_drewN'] at z0 ⊢; skip); repeat' (first | (with_reducible exact Below.refl _ _) | (with_reducible assumption) | (with_reducible refine Below.alloc ?_ ?_ _) | (with_reducible refine Below.drew ?_) | (with_reducible refine below_drewN ?_ _) | (with_reducible refine Below.setCell ?_ ?_ _) | (with_reducible refine Below.trans ?_ (Below.mono (by with_reducible assumption) ?_)) | omega | (simp only [World.size_alloc, World.size_setCell, World.size_drew, size_drewN']; omega) | go_size)), hb1z⟩
    all_goals simp [hb1c, hb1f, go_sem]
  case round =>
    obtain ⟨k, x, y, l, A, c, rfl, rfl, hR⟩ := hrel
    have HR := Lib.hid hR
    obtain ⟨hk, hs, own, a1, a2, b1, b2, f1, f2, bel, sz⟩ := hR
    have hx := (mto_lt (b := b) ha k hk).1
    have hy := (mto_lt (b := b) ha k hk).2
    have hl := mto_length a b k
    have hst := mto_succ a b k
    have hsd := mto_side (a := a) hb hp k k
    rw [hs] at hx hy hl hst hsd
    dsimp only at hx hy hl hsd
    have HS := Lib.hid hs
    have HT := Lib.hid hst
    have HD := Lib.hid hsd
    clear hs hst hsd hb1 hb1c hb1f hb1z
    have z0 : w.heap.size < wr.heap.size := by omega
    have z1 : w.heap.size + 1 < wr.heap.size := by omega
    by_cases hlt : k < 24
    · have hpk := pow_lt24 hlt
      have s1 := shl_eq (k := k) (by omega)
      have hor := or_lt24 hx hy
      have e0 := i64_or x y (by omega) (by omega)
      have e1 := i64_and (x ||| y) (2 ^ k) (by omega) (by omega)
      have e3 := i64_and b.1 (2 ^ k) (by have := hb.1; omega) (by omega)
      have e4 := i64_and b.2 (2 ^ k) (by have := hb.2.1; omega) (by omega)
      have e5 := i64_or x (2 ^ k) (by omega) (by omega)
      have e6 := i64_or y (2 ^ k) (by omega) (by omega)
      have o1 := or_lt24 hx hpk
      have o2 := or_lt24 hy hpk
      have hpos : 0 < 2 ^ k := Nat.two_pow_pos k
      have hxy := Nat.testBit_or x y k
      have HB := Lib.hid (tb0 hb.2.2 k)
      by_cases t0 : (x ||| y).testBit k = true
      · rw [bitp t0] at e1
        have HX : Hid (mto a b (k + 1) = ((x, y), l)) := by
          show mto a b (k + 1) = _
          have hd := bl1 (hxy.symm.trans t0) HD.out
          rw [HT.out, mst, if_neg hd.1, if_neg hd.2]
        clear HT HS HD HB e3 e4 e5 e6 o1 o2 t0 hxy
        generalize 2 ^ k = p at *
        generalize x ||| y = q at *
        have hne : ((p : Int) != 0) = true := by rw [bne_iff_ne]; omega
        go_wp2
        go_roundw
        case rel => exact ⟨k + 1, x, y, l, A, c, by go_num, rfl, hlt, HX.out, own, a1, a2, b1, b2, f1, f2, bel, sz⟩
        case measure => simp [intOf]; omega
      · have t0' : (x ||| y).testBit k = false := by simpa using t0
        rw [bitn t0'] at e1
        have hxk : x.testBit k = false := (bl2 (hxy.symm.trans t0')).1
        have hyk : y.testBit k = false := (bl2 (hxy.symm.trans t0')).2
        by_cases t1 : b.1.testBit k = true
        · have t2 : b.2.testBit k = false := bl3 HB.out t1
          rw [bitp t1] at e3
          rw [bitn t2] at e4
          have HX : Hid (mto a b (k + 1) = ((x ||| 2 ^ k, y), l ++ [(x, y ||| 2 ^ k)])) := by
            show mto a b (k + 1) = _
            rw [HT.out, mst, if_pos (by simp [t1, hxk])]
          clear HT HS HD HB t0 t0' hxy hxk hyk t1 t2
          generalize 2 ^ k = p at *
          generalize x ||| y = q at *
          generalize hX : x ||| p = xp at *
          generalize hY : y ||| p = yp at *
          have hne : ((p : Int) != 0) = true := by rw [bne_iff_ne]; omega
          clear hX hY
          go_wp2_with (at_builtin; refine wpList_appC1 rfl (.tmp 33) (.tmp 41) rfl (w.heap.size + 1 + 1) A c (l.map zc) (by simp [Act.eval]) (own.alloc _) (zc (x, yp)) wr.heap.size rfl (by simp [go_sem]) (by simp [go_sem]) (by simp; omega) (by simp; omega) ?_; intro A2 c2 w2 own2 hb2 hg2; obtain ⟨hb2d, hb2e⟩ := bcellX hb2; have hb2z := lt_size hb2)
          go_roundw
          case rel => exact ⟨k + 1, xp, y, l ++ [(x, yp)], A2, c2, by go_num, by simp, mi_step0 (yp := yp) HR.out hlt HX.out own2 hb2⟩
          case measure => simp [intOf]; omega
        · have t1' : b.1.testBit k = false := by simpa using t1
          rw [bitn t1'] at e3
          by_cases t2 : b.2.testBit k = true
          · rw [bitp t2] at e4
            have HX : Hid (mto a b (k + 1) = ((x, y ||| 2 ^ k), l ++ [(x ||| 2 ^ k, y)])) := by
              show mto a b (k + 1) = _
              rw [HT.out, mst, if_neg (by simp [t1']), if_pos (by simp [t2, hyk])]
            clear HT HS HD HB t0 t0' hxy hxk hyk t1 t1' t2
            generalize 2 ^ k = p at *
            generalize x ||| y = q at *
            generalize hX : x ||| p = xp at *
            generalize hY : y ||| p = yp at *
            have hne : ((p : Int) != 0) = true := by rw [bne_iff_ne]; omega
            clear hX hY
            go_wp2_with (at_builtin; refine wpList_appC1 rfl (.tmp 53) (.tmp 61) rfl (w.heap.size + 1 + 1) A c (l.map zc) (by simp [Act.eval]) (own.alloc _) (zc (xp, y)) wr.heap.size rfl (by simp [go_sem]) (by simp [go_sem]) (by simp; omega) (by simp; omega) ?_; intro A2 c2 w2 own2 hb2 hg2; obtain ⟨hb2d, hb2e⟩ := bcellX hb2; have hb2z := lt_size hb2)
            go_roundw
            case rel => exact ⟨k + 1, x, yp, l ++ [(xp, y)], A2, c2, by go_num, by simp, mi_step1 (xp := xp) HR.out hlt HX.out own2 hb2⟩
            case measure => simp [intOf]; omega
          · have t2' : b.2.testBit k = false := by simpa using t2
            rw [bitn t2'] at e4
            have HX : Hid (mto a b (k + 1) = ((x, y), l)) := by
              show mto a b (k + 1) = _
              rw [HT.out, mst, if_neg (by simp [t1']), if_neg (by simp [t2'])]
            clear HT HS HD HB t0 t0' hxy hxk hyk t1 t1' t2 t2' e5 e6 o1 o2
            generalize 2 ^ k = p at *
            generalize x ||| y = q at *
            go_wp2
            go_roundw
            case rel => exact ⟨k + 1, x, y, l, A, c, by go_num, rfl, hlt, HX.out, own, a1, a2, b1, b2, f1, f2, bel, sz⟩
            case measure => simp [intOf]; omega
    · have hk24 : k = 24 := by omega
      subst hk24
      have HX : Hid (miN a b = l) := by show miN a b = l; rw [HM.out, HS.out]
      clear HS HT HM HD
      go_wp2
      go_ret
      rw [HX.out]
      exact ⟨A, c, rfl, own.base_ (by omega), bel⟩
set_option maxHeartbeats 400000 in
theorem refMinus_ap (a b : Cn) (ha : okN a) (hb : okN b) (hp : apN a b = true) (w : World) : Calls Try.prog 35 #[cbv (zc a), cbv (zc b)] w fun e w' => ∃ A c, e = .returned (.slice A (miN a b).length c) ∧ OwC w' w.heap.size A c ((miN a b).map zc) ∧ Below w.heap.size w w' := by
  have HM : Hid (miN a b = [a]) := if_pos hp
  go_enter Try.func35, Try.ntmps35
  go_wp2_with (first | (go_at_call 77; (with_reducible refine (refMeets_any a b ha hb _).mono ?_); rintro e w1 ⟨rfl, hb1⟩; obtain ⟨hb1c, hb1f⟩ := bcell hb1; have hb1z := Below.size hb1; try simp only [World.size_alloc, World.size_setCell, World.size_drew] at hb1z))
  go_ret
  rw [HM.out]
  exact ⟨some ⟨w1.heap.size, 0, none⟩, 1, rfl, own_lit (by omega), (by have z0 := Below.size hb1; (try simp only [World.size_alloc, World.size_setCell, World.size_drew, size_drewN'] at z0 ⊢; skip); repeat' (first | (with_reducible exact Below.refl _ _) | (with_reducible assumption) | (with_reducible refine Below.alloc ?_ ?_ _) | (with_reducible refine Below.drew ?_) | (with_reducible refine below_drewN ?_ _) | (with_reducible refine Below.setCell ?_ ?_ _) | (with_reducible refine Below.trans ?_ (Below.mono (by with_reducible assumption) ?_)) | omega | (simp only [World.size_alloc, World.size_setCell, World.size_drew, size_drewN']; omega) | go_size))⟩
theorem refMinus_any (a b : Cn) (ha : okN a) (hb : okN b) (w : World) : Calls Try.prog 35 #[cbv (zc a), cbv (zc b)] w fun e w' => ∃ A c, e = .returned (.slice A (miN a b).length c) ∧ OwC w' w.heap.size A c ((miN a b).map zc) ∧ Below w.heap.size w w' := by
  by_cases hp : apN a b = true
  · exact refMinus_ap a b ha hb hp w
  · exact refMinus_no a b ha hb (by simpa using hp) w
end Go.Proofs.Ytedopalmfakeaaa
