/- Contracts of functions and lemmas, used by the proofs of the given statements. No condition beyond those that each lemma names. -/
import Derived.Test.YtedopalmfakeaaaJCubeC3
namespace Go.Proofs.Ytedopalmfakeaaa
open Go.RowKit
set_option linter.unusedSimpArgs false
set_option linter.unusedVariables false
set_option maxRecDepth 20000
attribute [local irreducible] pop popc cntC covB
/-! ## the reference's Covers -/
def CovSaid (n : Nat) : Prop := ∀ (A : Option Addr) (l : List Cn) (nl q : Nat) (c : Cn) (w : World), popc (frT 16777215 c) = n → okN c → (∀ a ∈ l, okN a) → l.length = nl → nl ≤ 1048576 → RdC w w.heap.size A (l.map zc) →
    Calls Try.prog 40 #[.slice A nl q, cbv (zc c)] w fun e w' => e = .returned (.bool (covB l c)) ∧ Below w.heap.size w w'
set_option maxHeartbeats 2000000 in
theorem refCovers_step (n : Nat) (ih : ∀ m, n = m + 1 → CovSaid m) : CovSaid n := by
  intro A l nl q c w hn hc hok hl hlen h
  subst hl
  have IH := Lib.hid ih
  have HN := Lib.hid hn
  have HO := Lib.hid hok
  clear ih hn hok
  go_enter Try.func40, Try.ntmps40
  go_wp2
  go_loopw [5, 6] (fun sp i wr => ∃ k s : Nat, k ≤ l.length ∧ i = .int .i64 k ∧ s = spl c (l.take k) ∧ sp = .int .i64 s ∧ (∀ d ∈ l.take k, wiN c d = false) ∧ Below w.heap.size w wr ∧ w.heap.size + 1 ≤ wr.heap.size ∧ wr.cell? ⟨w.heap.size, 0, none⟩ = some (.int .i64 (c.1 : Nat)) ∧ wr.cell? ⟨w.heap.size, 1, none⟩ = some (.int .i64 (c.2 : Nat))) (fun _ i _ => l.length - (intOf i).toNat)
  case atStart => exact ⟨0, 0, Nat.zero_le _, rfl, rfl, rfl, by simp, (by (skip); repeat' (first | (with_reducible exact Below.refl _ _) | (with_reducible assumption) | (with_reducible refine Below.alloc ?_ ?_ _) | (with_reducible refine Below.drew ?_) | (with_reducible refine below_drewN ?_ _) | (with_reducible refine Below.setCell ?_ ?_ _) | (with_reducible refine Below.trans ?_ (Below.mono (by with_reducible assumption) ?_)) | omega | (simp only [World.size_alloc, World.size_setCell, World.size_drew, size_drewN']; omega) | go_size)), by simp, by simp [go_sem], by simp [go_sem]⟩
  case round =>
    obtain ⟨k, s, hk, rfl, hs, rfl, hw, hb, hbz, x1, x2⟩ := hrel
    have HS := Lib.hid hs
    have HW := Lib.hid hw
    clear hs hw
    by_cases hlt : k < l.length
    · obtain ⟨b, off, rfl, hbb, y1, y2⟩ := (h.below hb).at_ (k := k) (c := zc l[k]) (by simp [hlt])
      have HT := Lib.hid (List.take_succ_eq_append_getElem hlt)
      have HU := Lib.hid (spl_succ c l k hlt)
      have HM : Hid (l[k] ∈ l) := List.getElem_mem _
      have hd := HO.out l[k] (List.getElem_mem _)
      generalize l[k] = d at *
      have f1 := fun y : Sub wr => y.cell x1
      have f2 := fun y : Sub wr => y.cell x2
      have f3 := fun y : Sub wr => y.cell y1
      have f4 := fun y : Sub wr => y.cell y2
      by_cases hwi : wiN c d = true
      · have HC : Hid (covB l c = true) := by
          show covB l c = true
          exact covB_all hc HM.out hwi
        have k1 := refImplies_any c d hc hd
        rw [hwi] at k1
        have K1 := Lib.hid k1
        clear HS HW HT HU HM k1
        go_wp2
        ((refine wp_region_quiet_bel (by kernel_rfl) (by kernel_rfl) ?_); (repeat (go_big_quiet_step ((go_at_call 33; with_reducible exact Calls.quiet_bel (K1.out _))))); (refine wpQuiet_nil ?_); rintro w5 ⟨⟨_, hb5⟩, rfl⟩; (try dsimp only))
        go_wp2
        go_ret
        exact ⟨by rw [HC.out]; rfl, (by have z0 := Below.size hb; have z1 := Below.size hb5; (try simp only [World.size_alloc, World.size_setCell, World.size_drew, size_drewN'] at z0 z1 ⊢; skip); repeat' (first | (with_reducible exact Below.refl _ _) | (with_reducible assumption) | (with_reducible refine Below.alloc ?_ ?_ _) | (with_reducible refine Below.drew ?_) | (with_reducible refine below_drewN ?_ _) | (with_reducible refine Below.setCell ?_ ?_ _) | (with_reducible refine Below.trans ?_ (Below.mono (by with_reducible assumption) ?_)) | omega | (simp only [World.size_alloc, World.size_setCell, World.size_drew, size_drewN']; omega) | go_size))⟩
      · have hwi' : wiN c d = false := by simpa using hwi
        have HW' : Hid (∀ d ∈ l.take (k + 1), wiN c d = false) := by
          intro g hg
          rw [HT.out, List.mem_append, List.mem_singleton] at hg
          rcases hg with hg | hg
          · exact HW.out g hg
          · rw [hg]; exact hwi'
        have k1 := refImplies_any c d hc hd
        rw [hwi'] at k1
        have K1 := Lib.hid k1
        clear HT HM HW hwi k1
        go_wp2
        ((refine wp_region_quiet_bel (by kernel_rfl) (by kernel_rfl) ?_); (repeat (go_big_quiet_step ((go_at_call 33; with_reducible exact Calls.quiet_bel (K1.out _))))); (refine wpQuiet_nil ?_); rintro w5 ⟨⟨_, hb5⟩, rfl⟩; (try dsimp only))
        clear f1 f2 f3 f4
        have z0 : w.heap.size < wr.heap.size := by omega
        have x1' : w5.cell? ⟨w.heap.size, 0, none⟩ = _ := (below_at hb5 w.heap.size 0 z0).trans x1
        have x2' : w5.cell? ⟨w.heap.size, 1, none⟩ = _ := (below_at hb5 w.heap.size 1 z0).trans x2
        have y1' : w5.cell? ⟨b, off + k * 2, none⟩ = _ := (below_at hb5 b _ (by omega)).trans y1
        have y2' : w5.cell? ⟨b, off + k * 2 + 1, none⟩ = _ := (below_at hb5 b _ (by omega)).trans y2
        have hb5z := hb5.size
        clear x1 x2 y1 y2
        have f1 := fun y : Sub w5 => y.cell x1'
        have f2 := fun y : Sub w5 => y.cell x2'
        have f3 := fun y : Sub w5 => y.cell y1'
        have f4 := fun y : Sub w5 => y.cell y2'
        by_cases hp : apN c d = true
        · have HX : Hid (s = spl c (l.take (k + 1))) := by show s = _; rw [HU.out, splN, if_pos hp]; exact HS.out
          have k2 := refMeets_any c d hc hd
          rw [hp] at k2
          have K2 := Lib.hid k2
          clear HU HS k2
          go_wp2
          ((refine wp_region_quiet_bel (by kernel_rfl) (by kernel_rfl) ?_); (repeat (go_big_quiet_step ((go_at_call 77; with_reducible exact Calls.quiet_bel (K2.out _))))); (refine wpQuiet_nil ?_); rintro w6 ⟨⟨_, hb6⟩, rfl⟩; (try dsimp only))
          go_wp2
          go_roundw
          case rel => exact ⟨k + 1, s, by omega, by go_num, HX.out, rfl, HW'.out, (by have z0 := Below.size hb; have z1 := Below.size hb5; have z2 := Below.size hb6; (try simp only [World.size_alloc, World.size_setCell, World.size_drew, size_drewN'] at z0 z1 z2 ⊢; skip); repeat' (first | (with_reducible exact Below.refl _ _) | (with_reducible assumption) | (with_reducible refine Below.alloc ?_ ?_ _) | (with_reducible refine Below.drew ?_) | (with_reducible refine below_drewN ?_ _) | (with_reducible refine Below.setCell ?_ ?_ _) | (with_reducible refine Below.trans ?_ (Below.mono (by with_reducible assumption) ?_)) | omega | (simp only [World.size_alloc, World.size_setCell, World.size_drew, size_drewN']; omega) | go_size)), by have := hb6.size; omega, (below_at hb6 w.heap.size 0 (by omega)).trans x1', (below_at hb6 w.heap.size 1 (by omega)).trans x2'⟩
          case measure => simp [intOf]; omega
        · have hp' : apN c d = false := by simpa using hp
          have HX : Hid (ndiff (d.1 ||| d.2) (c.1 ||| c.2) = spl c (l.take (k + 1))) := by show _ = spl c (l.take (k + 1)); rw [HU.out, splN, if_neg hp]
          have e1 := i64_or d.1 d.2 (by have := hd.1; omega) (by have := hd.2.1; omega)
          have e2 := i64_or c.1 c.2 (by have := hc.1; omega) (by have := hc.2.1; omega)
          have e3 := i64_andNot (d.1 ||| d.2) (c.1 ||| c.2) (by have := or_lt24 hd.1 hd.2.1; omega) (by have := or_lt24 hc.1 hc.2.1; omega)
          have k2 := refMeets_any c d hc hd
          rw [hp'] at k2
          have K2 := Lib.hid k2
          clear HU HS hp k2
          generalize ndiff (d.1 ||| d.2) (c.1 ||| c.2) = s' at *
          generalize d.1 ||| d.2 = g1 at *
          generalize c.1 ||| c.2 = g2 at *
          go_wp2
          ((refine wp_region_quiet_bel (by kernel_rfl) (by kernel_rfl) ?_); (repeat (go_big_quiet_step ((go_at_call 77; with_reducible exact Calls.quiet_bel (K2.out _))))); (refine wpQuiet_nil ?_); rintro w6 ⟨⟨_, hb6⟩, rfl⟩; (try dsimp only))
          have x1'' : w6.cell? ⟨w.heap.size, 0, none⟩ = _ := (below_at hb6 w.heap.size 0 (by omega)).trans x1'
          have x2'' : w6.cell? ⟨w.heap.size, 1, none⟩ = _ := (below_at hb6 w.heap.size 1 (by omega)).trans x2'
          have y1'' : w6.cell? ⟨b, off + k * 2, none⟩ = _ := (below_at hb6 b _ (by omega)).trans y1'
          have y2'' : w6.cell? ⟨b, off + k * 2 + 1, none⟩ = _ := (below_at hb6 b _ (by omega)).trans y2'
          have hb6z := hb6.size
          clear x1' x2' y1' y2' f1 f2 f3 f4
          go_wp2
          go_quiet (fail)
          go_wp2
          go_roundw
          case rel => exact ⟨k + 1, s', by omega, by go_num, HX.out, rfl, HW'.out, (by have z0 := Below.size hb; have z1 := Below.size hb5; have z2 := Below.size hb6; (try simp only [World.size_alloc, World.size_setCell, World.size_drew, size_drewN'] at z0 z1 z2 ⊢; skip); repeat' (first | (with_reducible exact Below.refl _ _) | (with_reducible assumption) | (with_reducible refine Below.alloc ?_ ?_ _) | (with_reducible refine Below.drew ?_) | (with_reducible refine below_drewN ?_ _) | (with_reducible refine Below.setCell ?_ ?_ _) | (with_reducible refine Below.trans ?_ (Below.mono (by with_reducible assumption) ?_)) | omega | (simp only [World.size_alloc, World.size_setCell, World.size_drew, size_drewN']; omega) | go_size)), by simp only [size_drewN']; omega, x1'', x2''⟩
          case measure => simp [intOf]; omega
    · have hall : l.take k = l := List.take_of_length_le (by omega)
      have hs' := HS.out
      have hw' := HW.out
      rw [hall] at hs' hw'
      have HS' := Lib.hid hs'
      have HW' := Lib.hid hw'
      clear hs' hw' HS HW hall
      by_cases hs0 : s = 0
      · have HC : Hid (covB l c = false) := by
          show covB l c = false
          exact covB_none hc (spl_zero HW'.out (by rw [← HS'.out]; exact hs0))
        subst hs0
        clear HS' HW'
        go_wp2
        go_ret
        exact ⟨by rw [HC.out]; rfl, (by have z0 := Below.size hb; (try simp only [World.size_alloc, World.size_setCell, World.size_drew, size_drewN'] at z0 ⊢; skip); repeat' (first | (with_reducible exact Below.refl _ _) | (with_reducible assumption) | (with_reducible refine Below.alloc ?_ ?_ _) | (with_reducible refine Below.drew ?_) | (with_reducible refine below_drewN ?_ _) | (with_reducible refine Below.setCell ?_ ?_ _) | (with_reducible refine Below.trans ?_ (Below.mono (by with_reducible assumption) ?_)) | omega | (simp only [World.size_alloc, World.size_setCell, World.size_drew, size_drewN']; omega) | go_size))⟩
      · have hs24 : s < 16777216 := by rw [HS'.out]; exact spl_lt HO.out
        obtain ⟨j, hj24, hsj, e2⟩ := i64_lowbit s (by omega) hs24
        have hfj : (frT 16777215 c).testBit j = true := spl_bits (fun d hd => inS_T (HO.out d hd)) j (by rw [← HS'.out]; exact hsj)
        have hfree := free_bits hfj
        have hcut := popc_cut hj24 hfj
        have ho1 : okN (c.1 ||| 2 ^ j, c.2) := ok_yes hc hj24 hfree.2
        have ho2 : okN (c.1, c.2 ||| 2 ^ j) := ok_no hc hj24 hfree.1
        obtain ⟨m, hm⟩ : ∃ m, n = m + 1 := ⟨n - 1, by have := HN.out; omega⟩
        have hn1 : popc (frT 16777215 (c.1 ||| 2 ^ j, c.2)) = m := by rw [frT_yes]; have := HN.out; omega
        have hn2 : popc (frT 16777215 (c.1, c.2 ||| 2 ^ j)) = m := by rw [frT_no]; have := HN.out; omega
        have I1 := Lib.hid (IH.out m hm A l l.length q (c.1 ||| 2 ^ j, c.2))
        have I2 := Lib.hid (IH.out m hm A l l.length q (c.1, c.2 ||| 2 ^ j))
        have HC := Lib.hid (covB_step (l := l) hj24 hfj)
        have e3 := i64_or c.1 (2 ^ j) (by have := hc.1; omega) (by have := pow_lt24 hj24; omega)
        have e4 := i64_or c.2 (2 ^ j) (by have := hc.2.1; omega) (by have := pow_lt24 hj24; omega)
        have e5 : ((s : Int) == 0) = false := by rw [nat_eq]; simpa using hs0
        have N1 := Lib.hid hn1
        have N2 := Lib.hid hn2
        have O1 := Lib.hid ho1
        have O2 := Lib.hid ho2
        clear hn1 hn2 ho1 ho2 hcut hfree hfj hsj hm IH HN HS' HW' hs0
        generalize 2 ^ j = p at *
        generalize c.1 ||| p = g1 at *
        generalize c.2 ||| p = g2 at *
        have z0 : w.heap.size < wr.heap.size := by omega
        have I1' := Lib.hid (fun W hW => I1.out W N1.out O1.out HO.out rfl hlen hW)
        have I2' := Lib.hid (fun W hW => I2.out W N2.out O2.out HO.out rfl hlen hW)
        clear I1 I2 N1 N2 O1 O2
        generalize covB l (g1, c.2) = v1 at *
        generalize covB l (c.1, g2) = v2 at *
        cases v1
        · go_wp2_with fail
          refine (I1'.out _ (h.on (by have z0 := Below.size hb; (try simp only [World.size_alloc, World.size_setCell, World.size_drew, size_drewN'] at z0 ⊢; skip); repeat' (first | (with_reducible exact Below.refl _ _) | (with_reducible assumption) | (with_reducible refine Below.alloc ?_ ?_ _) | (with_reducible refine Below.drew ?_) | (with_reducible refine below_drewN ?_ _) | (with_reducible refine Below.setCell ?_ ?_ _) | (with_reducible refine Below.trans ?_ (Below.mono (by with_reducible assumption) ?_)) | omega | (simp only [World.size_alloc, World.size_setCell, World.size_drew, size_drewN']; omega) | go_size)) (by omega))).mono ?_
          rintro e w5 ⟨rfl, hb5⟩
          go_wp2
          go_ret
          exact ⟨by rw [HC.out]; rfl, (by have z0 := Below.size hb; have z1 := Below.size hb5; (try simp only [World.size_alloc, World.size_setCell, World.size_drew, size_drewN'] at z0 z1 ⊢; skip); repeat' (first | (with_reducible exact Below.refl _ _) | (with_reducible assumption) | (with_reducible refine Below.alloc ?_ ?_ _) | (with_reducible refine Below.drew ?_) | (with_reducible refine below_drewN ?_ _) | (with_reducible refine Below.setCell ?_ ?_ _) | (with_reducible refine Below.trans ?_ (Below.mono (by with_reducible assumption) ?_)) | omega | (simp only [World.size_alloc, World.size_setCell, World.size_drew, size_drewN']; omega) | go_size))⟩
        · go_wp2_with fail
          refine (I1'.out _ (h.on (by have z0 := Below.size hb; (try simp only [World.size_alloc, World.size_setCell, World.size_drew, size_drewN'] at z0 ⊢; skip); repeat' (first | (with_reducible exact Below.refl _ _) | (with_reducible assumption) | (with_reducible refine Below.alloc ?_ ?_ _) | (with_reducible refine Below.drew ?_) | (with_reducible refine below_drewN ?_ _) | (with_reducible refine Below.setCell ?_ ?_ _) | (with_reducible refine Below.trans ?_ (Below.mono (by with_reducible assumption) ?_)) | omega | (simp only [World.size_alloc, World.size_setCell, World.size_drew, size_drewN']; omega) | go_size)) (by omega))).mono ?_
          rintro e w5 ⟨rfl, hb5⟩
          have x1' := fun o => below_at hb5 w.heap.size o z0
          go_wp2_with fail
          refine (I2'.out _ (h.on (by have z0 := Below.size hb; have z1 := Below.size hb5; (try simp only [World.size_alloc, World.size_setCell, World.size_drew, size_drewN'] at z0 z1 ⊢; skip); repeat' (first | (with_reducible exact Below.refl _ _) | (with_reducible assumption) | (with_reducible refine Below.alloc ?_ ?_ _) | (with_reducible refine Below.drew ?_) | (with_reducible refine below_drewN ?_ _) | (with_reducible refine Below.setCell ?_ ?_ _) | (with_reducible refine Below.trans ?_ (Below.mono (by with_reducible assumption) ?_)) | omega | (simp only [World.size_alloc, World.size_setCell, World.size_drew, size_drewN']; omega) | go_size)) (by have := hb5.size; omega))).mono ?_
          rintro e w6 ⟨rfl, hb6⟩
          go_wp2
          go_ret
          exact ⟨by rw [HC.out]; rfl, (by have z0 := Below.size hb; have z1 := Below.size hb5; have z2 := Below.size hb6; (try simp only [World.size_alloc, World.size_setCell, World.size_drew, size_drewN'] at z0 z1 z2 ⊢; skip); repeat' (first | (with_reducible exact Below.refl _ _) | (with_reducible assumption) | (with_reducible refine Below.alloc ?_ ?_ _) | (with_reducible refine Below.drew ?_) | (with_reducible refine below_drewN ?_ _) | (with_reducible refine Below.setCell ?_ ?_ _) | (with_reducible refine Below.trans ?_ (Below.mono (by with_reducible assumption) ?_)) | omega | (simp only [World.size_alloc, World.size_setCell, World.size_drew, size_drewN']; omega) | go_size))⟩
theorem refCovers_any (n : Nat) : CovSaid n := by
  induction n with
  | zero => exact refCovers_step 0 fun m h => by omega
  | succ n ih =>
    refine refCovers_step (n + 1) fun m h => ?_
    have h1 : n = m := by omega
    rw [← h1]
    exact ih
end Go.Proofs.Ytedopalmfakeaaa
