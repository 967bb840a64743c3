/- Contracts of functions and lemmas, used by the proofs of the given statements. No condition beyond those that each lemma names. -/
import Derived.Test.YtmebdlilbnadgaaGreatDoorBaseBig
namespace Go.Proofs.YtmebdlilbnadgaaGreatDoor
open Go.RowKit
set_option linter.unusedSimpArgs false
set_option linter.unusedVariables false
set_option maxRecDepth 20000
attribute [local irreducible] nv wp win plainB validR valR canR
/-! ## faultlinebase: Words, Rat, Rats of any numbers -/
set_option maxHeartbeats 2000000 in
/-- two lists that differ at a place -/
theorem words_diffB {w : World} {A B : Option Addr} {n c d : Nat} {l l' : List Nat} (h : RdW w w.heap.size A l) (h' : RdW w w.heap.size B l') (hl : l.length = n) (hl' : l'.length = n) (hn : n ≤ 1000000000) (hd : l ≠ l') :
    Calls Tryz.prog 69 #[.slice A n c, .slice B n d] w fun e w' => e = .returned (.bool false) ∧ Below w.heap.size w w' := by
  have HA := Lib.hid h
  have HB := Lib.hid h'
  have HL := Lib.hid hl
  have HL' := Lib.hid hl'
  have HD : Hid (∀ k, (∀ j (h1 : j < l.length) (h2 : j < l'.length), j < k → l[j] = l'[j]) → n ≤ k → False) := fun k hk hnk => hd (List.ext_getElem (by omega) fun j h1 h2 => hk j h1 h2 (by omega))
  have e0 : ((n : Int) != (n : Int)) = false := by simp
  clear h h' hl hl' hd
  go_enter Tryz.func69, Tryz.ntmps69
  go_wp2
  go_loopw [13] (fun i wr => ∃ k : Nat, k ≤ n ∧ i = .int .i64 (k : Int) ∧ (∀ j (h1 : j < l.length) (h2 : j < l'.length), j < k → l[j] = l'[j]) ∧ Below w.heap.size w wr) (fun i _ => n - (intOf i).toNat)
  case atStart => exact ⟨0, Nat.zero_le _, rfl, fun j _ _ hj => by omega, Below.refl _ _⟩
  case round =>
    obtain ⟨k, hk, rfl, he, hb⟩ := hrel
    have HE := Lib.hid he
    clear he
    by_cases hlt : k < n
    · have hk1 : k < l.length := by rw [HL.out]; exact hlt
      have hk2 : k < l'.length := by rw [HL'.out]; exact hlt
      obtain ⟨ba, oa, rfl, hba, f0⟩ := HA.out.at_ hk1
      obtain ⟨bb, ob, rfl, hbb, f1⟩ := HB.out.at_ hk2
      have g0 := (hb.cell (p := ⟨ba, oa + k, none⟩) hba).trans f0
      have g1 := (hb.cell (p := ⟨bb, ob + k, none⟩) hbb).trans f1
      have hk0 : (0 : Int) ≤ (k : Int) := by omega
      have hki : (k : Int) < (n : Int) := by omega
      have HX : Hid (∀ x y : Nat, x = l[k] → y = l'[k] → x = y → ∀ j (h1 : j < l.length) (h2 : j < l'.length), j < k + 1 → l[j] = l'[j]) := fun x y hx hy hxy j h1 h2 hj => by
        by_cases e : j = k
        · subst e; rw [← hx, ← hy, hxy]
        · exact HE.out j h1 h2 (by omega)
      have HX1 := Lib.hid (HX.out _ _ rfl rfl)
      clear HX
      generalize l[k] = x at *
      generalize l'[k] = y at *
      have x0 := fun z : Sub wr => z.cell g0
      have x1 := fun z : Sub wr => z.cell g1
      clear f0 f1 g0 g1
      by_cases exy : x = y
      · have e1 : ((x : Int) != (y : Int)) = false := by rw [exy]; simp
        have HX2 := Lib.hid (HX1.out exy)
        clear exy HX1
        go_wp2
        ((refine wp_region_quiet_bel (by kernel_rfl) (by kernel_rfl) ?_); (repeat (go_big_quiet_step (fail))); (refine wpQuiet_nil ?_); rintro w5 ⟨⟨_, hb5⟩, rfl⟩; (try dsimp only))
        go_wp2
        go_roundw
        case rel => exact ⟨k + 1, by omega, by go_num, HX2.out, hb.trans (hb5.mono hb.size)⟩
        case measure => simp [intOf]; omega
      · have e1 : ((x : Int) != (y : Int)) = true := by simp; omega
        clear exy HX1
        go_wp2
        ((refine wp_region_quiet_bel (by kernel_rfl) (by kernel_rfl) ?_); (repeat (go_big_quiet_step (fail))); (refine wpQuiet_nil ?_); rintro w5 ⟨⟨_, hb5⟩, rfl⟩; (try dsimp only))
        go_wp2
        go_ret
        exact ⟨rfl, hb.trans (hb5.mono hb.size)⟩
    · exact (HD.out k HE.out (by omega)).elim
theorem words_len {w : World} {A B : Option Addr} {n m c d : Nat} (hn : n ≠ m) :
    Calls Tryz.prog 69 #[.slice A n c, .slice B m d] w fun e w' => e = .returned (.bool false) ∧ Below w.heap.size w w' := by
  have e0 : ((n : Int) != (m : Int)) = true := by simp; omega
  go_enter Tryz.func69, Tryz.ntmps69
  go_wp2
  go_ret
  exact ⟨rfl, Below.refl _ _⟩
open Classical in
theorem words_anyB {w : World} {A B : Option Addr} {n m c d : Nat} {l l' : List Nat} (h : RdW w w.heap.size A l) (h' : RdW w w.heap.size B l') (hl : l.length = n) (hl' : l'.length = m) (hn : n ≤ 1000000000) :
    Calls Tryz.prog 69 #[.slice A n c, .slice B m d] w fun e w' => e = .returned (.bool (decide (l = l'))) ∧ Below w.heap.size w w' := by
  by_cases e : n = m
  · subst e
    by_cases e2 : l = l'
    · subst e2
      rw [decide_eq_true rfl]
      exact words_sameB h h' hl hn
    · rw [decide_eq_false e2]
      exact words_diffB h h' hl hl' hn e2
  · rw [decide_eq_false (fun e2 => e (by rw [← hl, ← hl', e2]))]
    exact words_len e
open Classical in
set_option maxHeartbeats 2000000 in
theorem rat_anyB {w : World} {b0 b1 : Nat} {v u : Value} {r r' : Rw} (h : RdS w b0 v r) (h' : RdS w b1 u r') (h1 : r.2.1.length ≤ 1000000000) (h2 : r.2.2.length ≤ 1000000000) :
    Calls Tryz.prog 37 #[v, u] w fun e w' => e = .returned (.bool (decide (r = r'))) ∧ Below w.heap.size w w' := by
  obtain ⟨A, c, B, d, rfl, hA, hB⟩ := h.parts
  obtain ⟨A', c', B', d', rfl, hA', hB'⟩ := h'.parts
  have K1 := Lib.hid (fun W (hb : Below w.heap.size w W) => words_anyB (c := c) (d := c') (hA.on hb hb.size) (hA'.on hb hb.size) rfl rfl h1)
  have K2 := Lib.hid (fun W (hb : Below w.heap.size w W) => words_anyB (c := d) (d := d') (hB.on hb hb.size) (hB'.on hb hb.size) rfl rfl h2)
  clear h h' hA hA' hB hB'
  obtain ⟨s, l, m⟩ := r
  obtain ⟨s', l', m'⟩ := r'
  simp only at *
  have HR : Hid (decide ((s, l, m) = (s', l', m')) = (s == s' && (decide (l = l') && decide (m = m')))) := by
    show _ = _
    by_cases e1 : s = s' <;> by_cases e2 : l = l' <;> by_cases e3 : m = m' <;> simp [e1, e2, e3]
  generalize decide ((s, l, m) = (s', l', m')) = D at *
  generalize decide (l = l') = D1 at *
  generalize decide (m = m') = D2 at *
  generalize l.length = n at *
  generalize m.length = n' at *
  generalize l'.length = n1 at *
  generalize m'.length = n1' at *
  by_cases e : s = s'
  · have e0 : (s == s') = true := by simp [e]
    cases D1 with
    | false =>
      go_enter Tryz.func37, Tryz.ntmps37
      (go_wp2_with fail; (with_reducible refine (K1.out _ (by (skip); repeat' (first | (with_reducible exact Below.refl _ _) | (with_reducible assumption) | (with_reducible refine Below.alloc ?_ ?_ _) | (with_reducible refine Below.drew ?_) | (with_reducible refine below_drewN ?_ _) | (with_reducible refine Below.setCell ?_ ?_ _) | (with_reducible refine Below.trans ?_ (Below.mono (by with_reducible assumption) ?_)) | omega | (simp only [ZA, ZS, ZD, ZN]; omega) | go_size))).mono ?_); rintro e w1 ⟨rfl, hb1⟩; have hb1z := Below.size hb1; (try simp only [ZA, ZS, ZD, ZN] at hb1z); have hb1c0 := fun o => below_at hb1 (w.heap.size) o (by first | omega | (simp only [ZA, ZS, ZD, ZN]; omega)); have hb1f0 := fun o => below_fr hb1 (w.heap.size) o (by first | omega | (simp only [ZA, ZS, ZD, ZN]; omega)); have hb1c1 := fun o => below_at hb1 (w.heap.size + 1) o (by first | omega | (simp only [ZA, ZS, ZD, ZN]; omega)); have hb1f1 := fun o => below_fr hb1 (w.heap.size + 1) o (by first | omega | (simp only [ZA, ZS, ZD, ZN]; omega)))
      go_wp2
      go_ret
      exact ⟨by rw [HR.out, e0]; rfl, (by have z0 := Below.size hb1; (try simp only [ZA, ZS, ZD, ZN] at z0 ⊢; skip); repeat' (first | (with_reducible exact Below.refl _ _) | (with_reducible assumption) | (with_reducible refine Below.alloc ?_ ?_ _) | (with_reducible refine Below.drew ?_) | (with_reducible refine below_drewN ?_ _) | (with_reducible refine Below.setCell ?_ ?_ _) | (with_reducible refine Below.trans ?_ (Below.mono (by with_reducible assumption) ?_)) | omega | (simp only [ZA, ZS, ZD, ZN]; omega) | go_size))⟩
    | true =>
      go_enter Tryz.func37, Tryz.ntmps37
      (go_wp2_with fail; (with_reducible refine (K1.out _ (by (skip); repeat' (first | (with_reducible exact Below.refl _ _) | (with_reducible assumption) | (with_reducible refine Below.alloc ?_ ?_ _) | (with_reducible refine Below.drew ?_) | (with_reducible refine below_drewN ?_ _) | (with_reducible refine Below.setCell ?_ ?_ _) | (with_reducible refine Below.trans ?_ (Below.mono (by with_reducible assumption) ?_)) | omega | (simp only [ZA, ZS, ZD, ZN]; omega) | go_size))).mono ?_); rintro e w1 ⟨rfl, hb1⟩; have hb1z := Below.size hb1; (try simp only [ZA, ZS, ZD, ZN] at hb1z); have hb1c0 := fun o => below_at hb1 (w.heap.size) o (by first | omega | (simp only [ZA, ZS, ZD, ZN]; omega)); have hb1f0 := fun o => below_fr hb1 (w.heap.size) o (by first | omega | (simp only [ZA, ZS, ZD, ZN]; omega)); have hb1c1 := fun o => below_at hb1 (w.heap.size + 1) o (by first | omega | (simp only [ZA, ZS, ZD, ZN]; omega)); have hb1f1 := fun o => below_fr hb1 (w.heap.size + 1) o (by first | omega | (simp only [ZA, ZS, ZD, ZN]; omega)))
      (go_wp2_with fail; (with_reducible refine (K2.out _ (by have z0 := Below.size hb1; (try simp only [ZA, ZS, ZD, ZN] at z0 ⊢; skip); repeat' (first | (with_reducible exact Below.refl _ _) | (with_reducible assumption) | (with_reducible refine Below.alloc ?_ ?_ _) | (with_reducible refine Below.drew ?_) | (with_reducible refine below_drewN ?_ _) | (with_reducible refine Below.setCell ?_ ?_ _) | (with_reducible refine Below.trans ?_ (Below.mono (by with_reducible assumption) ?_)) | omega | (simp only [ZA, ZS, ZD, ZN]; omega) | go_size))).mono ?_); rintro e w2 ⟨rfl, hb2⟩; have hb2z := Below.size hb2; (try simp only [ZA, ZS, ZD, ZN] at hb2z))
      go_wp2
      go_ret
      exact ⟨by rw [HR.out, e0]; rfl, (by have z0 := Below.size hb1; have z1 := Below.size hb2; (try simp only [ZA, ZS, ZD, ZN] at z0 z1 ⊢; skip); repeat' (first | (with_reducible exact Below.refl _ _) | (with_reducible assumption) | (with_reducible refine Below.alloc ?_ ?_ _) | (with_reducible refine Below.drew ?_) | (with_reducible refine below_drewN ?_ _) | (with_reducible refine Below.setCell ?_ ?_ _) | (with_reducible refine Below.trans ?_ (Below.mono (by with_reducible assumption) ?_)) | omega | (simp only [ZA, ZS, ZD, ZN]; omega) | go_size))⟩
  · have e0 : (s == s') = false := by simp [e]
    go_enter Tryz.func37, Tryz.ntmps37
    go_wp2
    go_ret
    exact ⟨by rw [HR.out, e0]; rfl, (by (skip); repeat' (first | (with_reducible exact Below.refl _ _) | (with_reducible assumption) | (with_reducible refine Below.alloc ?_ ?_ _) | (with_reducible refine Below.drew ?_) | (with_reducible refine below_drewN ?_ _) | (with_reducible refine Below.setCell ?_ ?_ _) | (with_reducible refine Below.trans ?_ (Below.mono (by with_reducible assumption) ?_)) | omega | (simp only [ZA, ZS, ZD, ZN]; omega) | go_size))⟩
/-- the two rows are the same -/
def SameR (n m : Nat) (R U : Nat → Rw) : Prop := n = m ∧ ∀ k, k < n → R k = U k
set_option maxHeartbeats 4000000 in
theorem rats_anyB {w : World} {b0 b1 n m c d : Nat} {A B : Option Addr} {R U : Nat → Rw} (h : RowA w b0 A n R) (h' : RowA w b1 B m U) (hn : n ≤ 1000000000) (hs : ∀ k, k < n → (R k).2.1.length ≤ 1000000000 ∧ (R k).2.2.length ≤ 1000000000) :
    Calls Tryz.prog 16 #[.slice A n c, .slice B m d] w fun e w' => (∃ b, e = .returned (.bool b) ∧ (b = true ↔ SameR n m R U)) ∧ Below w.heap.size w w' := by
  by_cases hnm : n = m
  · subst hnm
    have HA := Lib.hid h
    have HB := Lib.hid h'
    have HS := Lib.hid hs
    have e0 : ((n : Int) != (n : Int)) = false := by simp
    clear h h' hs
    go_enter Tryz.func16, Tryz.ntmps16
    go_wp2
    go_loopw [13] (fun i wr => ∃ k : Nat, k ≤ n ∧ i = .int .i64 (k : Int) ∧ (∀ j, j < k → R j = U j) ∧ Below w.heap.size w wr) (fun i _ => n - (intOf i).toNat)
    case atStart => exact ⟨0, Nat.zero_le _, rfl, fun j hj => by omega, Below.refl _ _⟩
    case round =>
      obtain ⟨k, hk, rfl, he, hb⟩ := hrel
      have HE := Lib.hid he
      clear he
      by_cases hlt : k < n
      · obtain ⟨ba, oa, s1, A1, n1, c1, B1, m1, d1, rfl, hba, f0, f1, f2, r1⟩ := HA.out.at_ hlt
        obtain ⟨bb, ob, s2, A2, n2, c2, B2, m2, d2, rfl, hbb, g0, g1, g2, r2⟩ := HB.out.at_ hlt
        obtain ⟨z1, z2⟩ := HS.out k hlt
        have K := Lib.hid (fun W (hb' : Below wr.heap.size wr W) => rat_anyB (r1.kp (Kp.of_below (hb.trans (hb'.mono hb.size)))) (r2.kp (Kp.of_below (hb.trans (hb'.mono hb.size)))) z1 z2)
        have x0 := fun y : Sub wr => y.cell ((hb.cell (lt_of_cell f0)).trans f0)
        have x1 := fun y : Sub wr => y.cell ((hb.cell (lt_of_cell f1)).trans f1)
        have x2 := fun y : Sub wr => y.cell ((hb.cell (lt_of_cell f2)).trans f2)
        have y0 := fun y : Sub wr => y.cell ((hb.cell (lt_of_cell g0)).trans g0)
        have y1 := fun y : Sub wr => y.cell ((hb.cell (lt_of_cell g1)).trans g1)
        have y2 := fun y : Sub wr => y.cell ((hb.cell (lt_of_cell g2)).trans g2)
        have hk0 : (0 : Int) ≤ (k : Int) := by omega
        have hki : (k : Int) < (n : Int) := by omega
        clear f0 f1 f2 g0 g1 g2 r1 r2
        by_cases hRU : R k = U k
        · rw [decide_eq_true hRU] at K
          have HX : Hid (∀ j, j < k + 1 → R j = U j) := fun j hj => by
            by_cases e : j = k
            · rw [e]; exact hRU
            · exact HE.out j (by omega)
          clear hRU
          go_wp2
          ((refine wp_region_quiet_bel (by kernel_rfl) (by kernel_rfl) ?_); (repeat (go_big_quiet_step ((go_at_call 37; with_reducible exact Calls.quiet_bel (K.out _ (Sub.bel _)))))); (refine wpQuiet_nil ?_); rintro w5 ⟨⟨_, hb5⟩, rfl⟩; (try dsimp only))
          go_wp2
          go_roundw
          case rel => exact ⟨k + 1, by omega, by go_num, HX.out, hb.trans (hb5.mono hb.size)⟩
          case measure => simp [intOf]; omega
        · rw [decide_eq_false hRU] at K
          have HX : Hid (¬ SameR n n R U) := fun hh => hRU (hh.2 k hlt)
          clear hRU
          go_wp2
          ((refine wp_region_quiet_bel (by kernel_rfl) (by kernel_rfl) ?_); (repeat (go_big_quiet_step ((go_at_call 37; with_reducible exact Calls.quiet_bel (K.out _ (Sub.bel _)))))); (refine wpQuiet_nil ?_); rintro w5 ⟨⟨_, hb5⟩, rfl⟩; (try dsimp only))
          go_wp2
          go_ret
          exact ⟨⟨false, rfl, (fun h => nomatch h), fun h => (HX.out h).elim⟩, hb.trans (hb5.mono hb.size)⟩
      · have HX : Hid (SameR n n R U) := ⟨rfl, fun j hj => HE.out j (by omega)⟩
        go_wp2
        go_ret
        exact ⟨⟨true, rfl, fun _ => HX.out, fun _ => rfl⟩, hb⟩
  · have e0 : ((n : Int) != (m : Int)) = true := by simp; omega
    have HX : Hid (¬ SameR n m R U) := fun hh => hnm hh.1
    clear h h' hs hnm
    go_enter Tryz.func16, Tryz.ntmps16
    go_wp2
    go_ret
    exact ⟨⟨false, rfl, (fun h => nomatch h), fun h => (HX.out h).elim⟩, Below.refl _ _⟩
end Go.Proofs.YtmebdlilbnadgaaGreatDoor
