/- Contracts of functions and lemmas, used by the proofs of the given statements. No condition beyond those that each lemma names. -/
import Derived.Test.YtnljncncnohncaaDoorJAwB
namespace Go.Proofs.YtnljncncnohncaaDoor
open Go.RowKit
set_option linter.unusedSimpArgs false
set_option linter.unusedVariables false
set_option maxRecDepth 20000
attribute [local irreducible] nv wp win plainB validR valR canR
/-! ## the law's large and vector -/
def okN (n : Nat) : Prop := n ≤ 7 ∨ 256 < n ∧ n ≤ 1000
def SmallR (n : Nat) (R : Nat → Rw) : Prop := okN n ∧ ∀ k, k < n → (R k).2.1.length ≤ 3 ∧ (R k).2.2.length ≤ 3
def SmallM (n : Nat) (len : Nat → Nat) (R : Nat → Nat → Rw) : Prop := okN n ∧ ∀ i, i < n → SmallR (len i) (R i)
/-- the matrices of a list -/
def ListM (w : World) (b0 g m : Nat) (n : Nat → Nat) (len : Nat → Nat → Nat) (R : Nat → Nat → Nat → Rw) : Prop :=
  ∀ t, t < m → ∃ A c, w.cell? ⟨g, t, none⟩ = some (.slice A (n t) c) ∧ MatI w b0 A (n t) (len t) (R t)
def RetLg (m : Nat) (n : Nat → Nat) (len : Nat → Nat → Nat) (R : Nat → Nat → Nat → Rw) (e : Ending) : Prop := ∃ b : Bool, e = .returned (.bool b) ∧ (b = false → ∀ t, t < m → SmallM (n t) (len t) (R t))
theorem lg_true {m : Nat} {n : Nat → Nat} {len : Nat → Nat → Nat} {R : Nat → Nat → Nat → Rw} : RetLg m n len R (.returned (.bool true)) := ⟨true, rfl, fun h => nomatch h⟩
theorem okN_cases (n : Nat) : ((7 < n ∧ n ≤ 256) ∨ 1000 < n) ∨ (n ≤ 7 ∨ (256 < n ∧ n ≤ 1000)) := by omega
theorem RdS.lens {w : World} {b0 : Nat} {s : Bool} {A B : Option Addr} {n c m d : Nat} {r : Rw} (h : RdS w b0 (rv s A n c B m d) r) : r.2.1.length = n ∧ r.2.2.length = m := by
  obtain ⟨A', c', B', d', e, _⟩ := h
  unfold rv at e
  injection e with e
  simp at e
  exact ⟨e.2.1.2.1.symm, e.2.2.2.1.symm⟩
set_option maxHeartbeats 8000000 in
theorem large_any {w : World} {b0 g m cm : Nat} {n : Nat → Nat} {len : Nat → Nat → Nat} {R : Nat → Nat → Nat → Rw} (h : ListM w b0 g m n len R) (hm : m ≤ 1000) :
    Calls Tryd.prog 12 #[.slice (some ⟨g, 0, none⟩) m cm] w fun e w' => RetLg m n len R e ∧ Below w.heap.size w w' := by
  have HI := Lib.hid h
  clear h
  go_enter Tryd.func12, Tryd.ntmps12
  go_wp2
  go_loopw [11] (fun i wr => ∃ t, t ≤ m ∧ i = .int .i64 (t : Int) ∧ (∀ x, x < t → SmallM (n x) (len x) (R x)) ∧ Below w.heap.size w wr) (fun i _ => m - (intOf i).toNat)
  case atStart => exact ⟨0, Nat.zero_le _, rfl, fun x hx => by omega, Below.refl _ _⟩
  case round =>
    obtain ⟨t, ht, rfl, hs, hb⟩ := hrel
    have HS := Lib.hid hs
    clear hs
    have hbz := hb.size
    by_cases hlt : t < m
    · obtain ⟨A, c, hc0, hM⟩ := HI.out t hlt
      have hc1 : wr.cell? ⟨g, t, none⟩ = some (.slice A (n t) c) := (hb.cell (lt_of_cell hc0)).trans hc0
      have HM := Lib.hid hM
      clear hc0 hM
      obtain ⟨nt, hnt⟩ : ∃ nt, nt = n t := ⟨_, rfl⟩
      rw [← hnt] at hc1
      have HN := Lib.hid hnt
      clear hnt
      rcases okN_cases nt with hbad | hok
      · by_cases h9 : 1000 < nt
        · have e1 : decide ((7 : Int) < (nt : Int)) = true := by simp; omega
          have e2 : decide ((nt : Int) ≤ 256) = false := by simp; omega
          have e3 : decide ((1000 : Int) < (nt : Int)) = true := by simp; omega
          go_wp2
          go_ret
          exact ⟨lg_true, hb⟩
        · have e1 : decide ((7 : Int) < (nt : Int)) = true := by simp; omega
          have e2 : decide ((nt : Int) ≤ 256) = true := by simp; omega
          go_wp2
          go_ret
          exact ⟨lg_true, hb⟩
      · have HO : Hid (okN nt) := hok
        rcases hok with h7 | ⟨h7, h8⟩
        · have e1 : decide ((7 : Int) < (nt : Int)) = false := by simp; omega
          have e3 : decide ((1000 : Int) < (nt : Int)) = false := by simp; omega
          have h1k : nt ≤ 1000 := by omega
          clear h7
          go_wp2
          clear e1 e3
          go_loopw [30] (fun i wr => ∃ k, k ≤ nt ∧ i = .int .i64 (k : Int) ∧ (∀ x, x < k → SmallR (len t x) (R t x)) ∧ Below w.heap.size w wr) (fun i _ => nt - (intOf i).toNat)
          case atStart => exact ⟨0, Nat.zero_le _, rfl, fun x hx => by omega, hb⟩
          case round =>
            obtain ⟨k, hk, rfl, hs2, hb2⟩ := hrel
            have HS2 := Lib.hid hs2
            clear hs2
            have hb2z := hb2.size
            by_cases hlt2 : k < nt
            · obtain ⟨b, off, Ai, ci, rfl, hbb, hcell0, hlc, hrow⟩ := HM.out.at_ (show k < n t by rw [← HN.out]; exact hlt2)
              have hcell := (hb2.cell (lt_of_cell hcell0)).trans hcell0
              clear hcell0
              have HR := Lib.hid hrow
              clear hrow
              obtain ⟨lk, hlk⟩ : ∃ lk, lk = len t k := ⟨_, rfl⟩
              rw [← hlk] at hcell hlc
              have HLK := Lib.hid hlk
              clear hlk
              rcases okN_cases lk with hbad | hok
              · by_cases h9 : 1000 < lk
                · have e1 : decide ((7 : Int) < (lk : Int)) = true := by simp; omega
                  have e2 : decide ((lk : Int) ≤ 256) = false := by simp; omega
                  have e3 : decide ((1000 : Int) < (lk : Int)) = true := by simp; omega
                  go_wp2
                  go_ret
                  exact ⟨lg_true, hb2⟩
                · have e1 : decide ((7 : Int) < (lk : Int)) = true := by simp; omega
                  have e2 : decide ((lk : Int) ≤ 256) = true := by simp; omega
                  go_wp2
                  go_ret
                  exact ⟨lg_true, hb2⟩
              · have HO2 : Hid (okN lk) := hok
                rcases hok with h7 | ⟨h7, h8⟩
                · have e1 : decide ((7 : Int) < (lk : Int)) = false := by simp; omega
                  have e3 : decide ((1000 : Int) < (lk : Int)) = false := by simp; omega
                  have h2k : lk ≤ 1000 := by omega
                  clear h7
                  go_wp2
                  clear e1 e3
                  go_loopw [49] (fun i wr => ∃ j, j ≤ lk ∧ i = .int .i64 (j : Int) ∧ (∀ x, x < j → (R t k x).2.1.length ≤ 3 ∧ (R t k x).2.2.length ≤ 3) ∧ Below w.heap.size w wr) (fun i _ => lk - (intOf i).toNat)
                  case atStart => exact ⟨0, Nat.zero_le _, rfl, fun x hx => by omega, hb2⟩
                  case round =>
                    obtain ⟨j, hj, rfl, hs3, hb3⟩ := hrel
                    have HS3 := Lib.hid hs3
                    clear hs3
                    have hb3z := hb3.size
                    by_cases hlt3 : j < lk
                    · obtain ⟨b', off', s1, A1, n1, c1, B1, m1, d1, rfl, hbb', f0, f1, f2, r1⟩ := (HR.out.kp (Kp.of_below hb3)).ra.at_ (show j < len t k by rw [← HLK.out]; exact hlt3)
                      have hln := Lib.hid r1.lens
                      clear r1
                      by_cases hn3 : 3 < n1
                      · have e1 : decide ((3 : Int) < (n1 : Int)) = true := by simp; omega
                        go_wp2
                        go_ret
                        exact ⟨lg_true, (by have z0 := Below.size hb3; (try simp only [World.size_alloc, World.size_setCell, World.size_drew, size_drewN'] at z0 ⊢; skip); repeat' (first | (with_reducible exact Below.refl _ _) | (with_reducible assumption) | (with_reducible refine Below.alloc ?_ ?_ _) | (with_reducible refine Below.drew ?_) | (with_reducible refine below_drewN ?_ _) | (with_reducible refine Below.setCell ?_ ?_ _) | (with_reducible refine Below.trans ?_ (Below.mono (by with_reducible assumption) ?_)) | omega | (simp only [World.size_alloc, World.size_setCell, World.size_drew, size_drewN']; omega) | go_size))⟩
                      · have e1 : decide ((3 : Int) < (n1 : Int)) = false := by simp; omega
                        by_cases hm3 : 3 < m1
                        · have e2 : decide ((3 : Int) < (m1 : Int)) = true := by simp; omega
                          go_wp2
                          go_ret
                          exact ⟨lg_true, (by have z0 := Below.size hb3; (try simp only [World.size_alloc, World.size_setCell, World.size_drew, size_drewN'] at z0 ⊢; skip); repeat' (first | (with_reducible exact Below.refl _ _) | (with_reducible assumption) | (with_reducible refine Below.alloc ?_ ?_ _) | (with_reducible refine Below.drew ?_) | (with_reducible refine below_drewN ?_ _) | (with_reducible refine Below.setCell ?_ ?_ _) | (with_reducible refine Below.trans ?_ (Below.mono (by with_reducible assumption) ?_)) | omega | (simp only [World.size_alloc, World.size_setCell, World.size_drew, size_drewN']; omega) | go_size))⟩
                        · have e2 : decide ((3 : Int) < (m1 : Int)) = false := by simp; omega
                          have HT3 : Hid (∀ x, x < j + 1 → (R t k x).2.1.length ≤ 3 ∧ (R t k x).2.2.length ≤ 3) := by
                            show ∀ x, _
                            intro x hx
                            rcases Nat.lt_or_ge x j with h1 | h1
                            · exact HS3.out x h1
                            · have : x = j := by omega
                              subst this
                              rw [hln.out.1, hln.out.2]
                              omega
                          go_wp2
                          go_roundw
                          case rel => exact ⟨j + 1, by omega, by go_num, HT3.out, (by have z0 := Below.size hb3; (try simp only [World.size_alloc, World.size_setCell, World.size_drew, size_drewN'] at z0 ⊢; skip); repeat' (first | (with_reducible exact Below.refl _ _) | (with_reducible assumption) | (with_reducible refine Below.alloc ?_ ?_ _) | (with_reducible refine Below.drew ?_) | (with_reducible refine below_drewN ?_ _) | (with_reducible refine Below.setCell ?_ ?_ _) | (with_reducible refine Below.trans ?_ (Below.mono (by with_reducible assumption) ?_)) | omega | (simp only [World.size_alloc, World.size_setCell, World.size_drew, size_drewN']; omega) | go_size))⟩
                          case measure => simp [intOf]; omega
                    · have : j = lk := by omega
                      subst this
                      have HT2 : Hid (∀ x, x < k + 1 → SmallR (len t x) (R t x)) := by
                        show ∀ x, _
                        intro x hx
                        rcases Nat.lt_or_ge x k with h1 | h1
                        · exact HS2.out x h1
                        · have : x = k := by omega
                          subst this
                          exact ⟨by rw [← HLK.out]; exact HO2.out, fun i hi => HS3.out i (by rw [HLK.out]; exact hi)⟩
                      go_wp2
                      go_roundw
                      case rel => exact ⟨k + 1, by omega, by go_num, HT2.out, hb3⟩
                      case measure => simp [intOf]; omega
                · have e1 : decide ((7 : Int) < (lk : Int)) = true := by simp; omega
                  have e2 : decide ((lk : Int) ≤ 256) = false := by simp; omega
                  have e3 : decide ((1000 : Int) < (lk : Int)) = false := by simp; omega
                  clear h7
                  have h2k : lk ≤ 1000 := h8
                  go_wp2
                  clear e1 e3
                  go_loopw [49] (fun i wr => ∃ j, j ≤ lk ∧ i = .int .i64 (j : Int) ∧ (∀ x, x < j → (R t k x).2.1.length ≤ 3 ∧ (R t k x).2.2.length ≤ 3) ∧ Below w.heap.size w wr) (fun i _ => lk - (intOf i).toNat)
                  case atStart => exact ⟨0, Nat.zero_le _, rfl, fun x hx => by omega, hb2⟩
                  case round =>
                    obtain ⟨j, hj, rfl, hs3, hb3⟩ := hrel
                    have HS3 := Lib.hid hs3
                    clear hs3
                    have hb3z := hb3.size
                    by_cases hlt3 : j < lk
                    · obtain ⟨b', off', s1, A1, n1, c1, B1, m1, d1, rfl, hbb', f0, f1, f2, r1⟩ := (HR.out.kp (Kp.of_below hb3)).ra.at_ (show j < len t k by rw [← HLK.out]; exact hlt3)
                      have hln := Lib.hid r1.lens
                      clear r1
                      by_cases hn3 : 3 < n1
                      · have e1 : decide ((3 : Int) < (n1 : Int)) = true := by simp; omega
                        go_wp2
                        go_ret
                        exact ⟨lg_true, (by have z0 := Below.size hb3; (try simp only [World.size_alloc, World.size_setCell, World.size_drew, size_drewN'] at z0 ⊢; skip); repeat' (first | (with_reducible exact Below.refl _ _) | (with_reducible assumption) | (with_reducible refine Below.alloc ?_ ?_ _) | (with_reducible refine Below.drew ?_) | (with_reducible refine below_drewN ?_ _) | (with_reducible refine Below.setCell ?_ ?_ _) | (with_reducible refine Below.trans ?_ (Below.mono (by with_reducible assumption) ?_)) | omega | (simp only [World.size_alloc, World.size_setCell, World.size_drew, size_drewN']; omega) | go_size))⟩
                      · have e1 : decide ((3 : Int) < (n1 : Int)) = false := by simp; omega
                        by_cases hm3 : 3 < m1
                        · have e2 : decide ((3 : Int) < (m1 : Int)) = true := by simp; omega
                          go_wp2
                          go_ret
                          exact ⟨lg_true, (by have z0 := Below.size hb3; (try simp only [World.size_alloc, World.size_setCell, World.size_drew, size_drewN'] at z0 ⊢; skip); repeat' (first | (with_reducible exact Below.refl _ _) | (with_reducible assumption) | (with_reducible refine Below.alloc ?_ ?_ _) | (with_reducible refine Below.drew ?_) | (with_reducible refine below_drewN ?_ _) | (with_reducible refine Below.setCell ?_ ?_ _) | (with_reducible refine Below.trans ?_ (Below.mono (by with_reducible assumption) ?_)) | omega | (simp only [World.size_alloc, World.size_setCell, World.size_drew, size_drewN']; omega) | go_size))⟩
                        · have e2 : decide ((3 : Int) < (m1 : Int)) = false := by simp; omega
                          have HT3 : Hid (∀ x, x < j + 1 → (R t k x).2.1.length ≤ 3 ∧ (R t k x).2.2.length ≤ 3) := by
                            show ∀ x, _
                            intro x hx
                            rcases Nat.lt_or_ge x j with h1 | h1
                            · exact HS3.out x h1
                            · have : x = j := by omega
                              subst this
                              rw [hln.out.1, hln.out.2]
                              omega
                          go_wp2
                          go_roundw
                          case rel => exact ⟨j + 1, by omega, by go_num, HT3.out, (by have z0 := Below.size hb3; (try simp only [World.size_alloc, World.size_setCell, World.size_drew, size_drewN'] at z0 ⊢; skip); repeat' (first | (with_reducible exact Below.refl _ _) | (with_reducible assumption) | (with_reducible refine Below.alloc ?_ ?_ _) | (with_reducible refine Below.drew ?_) | (with_reducible refine below_drewN ?_ _) | (with_reducible refine Below.setCell ?_ ?_ _) | (with_reducible refine Below.trans ?_ (Below.mono (by with_reducible assumption) ?_)) | omega | (simp only [World.size_alloc, World.size_setCell, World.size_drew, size_drewN']; omega) | go_size))⟩
                          case measure => simp [intOf]; omega
                    · have : j = lk := by omega
                      subst this
                      have HT2 : Hid (∀ x, x < k + 1 → SmallR (len t x) (R t x)) := by
                        show ∀ x, _
                        intro x hx
                        rcases Nat.lt_or_ge x k with h1 | h1
                        · exact HS2.out x h1
                        · have : x = k := by omega
                          subst this
                          exact ⟨by rw [← HLK.out]; exact HO2.out, fun i hi => HS3.out i (by rw [HLK.out]; exact hi)⟩
                      go_wp2
                      go_roundw
                      case rel => exact ⟨k + 1, by omega, by go_num, HT2.out, hb3⟩
                      case measure => simp [intOf]; omega
            · have : k = nt := by omega
              subst this
              have HT : Hid (∀ x, x < t + 1 → SmallM (n x) (len x) (R x)) := by
                show ∀ x, _
                intro x hx
                rcases Nat.lt_or_ge x t with h1 | h1
                · exact HS.out x h1
                · have : x = t := by omega
                  subst this
                  exact ⟨by rw [← HN.out]; exact HO.out, fun i hi => HS2.out i (by rw [HN.out]; exact hi)⟩
              go_wp2
              go_roundw
              case rel => exact ⟨t + 1, by omega, by go_num, HT.out, hb2⟩
              case measure => simp [intOf]; omega
        · have e1 : decide ((7 : Int) < (nt : Int)) = true := by simp; omega
          have e2 : decide ((nt : Int) ≤ 256) = false := by simp; omega
          have e3 : decide ((1000 : Int) < (nt : Int)) = false := by simp; omega
          clear h7
          have h1k : nt ≤ 1000 := h8
          go_wp2
          clear e1 e3
          go_loopw [30] (fun i wr => ∃ k, k ≤ nt ∧ i = .int .i64 (k : Int) ∧ (∀ x, x < k → SmallR (len t x) (R t x)) ∧ Below w.heap.size w wr) (fun i _ => nt - (intOf i).toNat)
          case atStart => exact ⟨0, Nat.zero_le _, rfl, fun x hx => by omega, hb⟩
          case round =>
            obtain ⟨k, hk, rfl, hs2, hb2⟩ := hrel
            have HS2 := Lib.hid hs2
            clear hs2
            have hb2z := hb2.size
            by_cases hlt2 : k < nt
            · obtain ⟨b, off, Ai, ci, rfl, hbb, hcell0, hlc, hrow⟩ := HM.out.at_ (show k < n t by rw [← HN.out]; exact hlt2)
              have hcell := (hb2.cell (lt_of_cell hcell0)).trans hcell0
              clear hcell0
              have HR := Lib.hid hrow
              clear hrow
              obtain ⟨lk, hlk⟩ : ∃ lk, lk = len t k := ⟨_, rfl⟩
              rw [← hlk] at hcell hlc
              have HLK := Lib.hid hlk
              clear hlk
              rcases okN_cases lk with hbad | hok
              · by_cases h9 : 1000 < lk
                · have e1 : decide ((7 : Int) < (lk : Int)) = true := by simp; omega
                  have e2 : decide ((lk : Int) ≤ 256) = false := by simp; omega
                  have e3 : decide ((1000 : Int) < (lk : Int)) = true := by simp; omega
                  go_wp2
                  go_ret
                  exact ⟨lg_true, hb2⟩
                · have e1 : decide ((7 : Int) < (lk : Int)) = true := by simp; omega
                  have e2 : decide ((lk : Int) ≤ 256) = true := by simp; omega
                  go_wp2
                  go_ret
                  exact ⟨lg_true, hb2⟩
              · have HO2 : Hid (okN lk) := hok
                rcases hok with h7 | ⟨h7, h8⟩
                · have e1 : decide ((7 : Int) < (lk : Int)) = false := by simp; omega
                  have e3 : decide ((1000 : Int) < (lk : Int)) = false := by simp; omega
                  have h2k : lk ≤ 1000 := by omega
                  clear h7
                  go_wp2
                  clear e1 e3
                  go_loopw [49] (fun i wr => ∃ j, j ≤ lk ∧ i = .int .i64 (j : Int) ∧ (∀ x, x < j → (R t k x).2.1.length ≤ 3 ∧ (R t k x).2.2.length ≤ 3) ∧ Below w.heap.size w wr) (fun i _ => lk - (intOf i).toNat)
                  case atStart => exact ⟨0, Nat.zero_le _, rfl, fun x hx => by omega, hb2⟩
                  case round =>
                    obtain ⟨j, hj, rfl, hs3, hb3⟩ := hrel
                    have HS3 := Lib.hid hs3
                    clear hs3
                    have hb3z := hb3.size
                    by_cases hlt3 : j < lk
                    · obtain ⟨b', off', s1, A1, n1, c1, B1, m1, d1, rfl, hbb', f0, f1, f2, r1⟩ := (HR.out.kp (Kp.of_below hb3)).ra.at_ (show j < len t k by rw [← HLK.out]; exact hlt3)
                      have hln := Lib.hid r1.lens
                      clear r1
                      by_cases hn3 : 3 < n1
                      · have e1 : decide ((3 : Int) < (n1 : Int)) = true := by simp; omega
                        go_wp2
                        go_ret
                        exact ⟨lg_true, (by have z0 := Below.size hb3; (try simp only [World.size_alloc, World.size_setCell, World.size_drew, size_drewN'] at z0 ⊢; skip); repeat' (first | (with_reducible exact Below.refl _ _) | (with_reducible assumption) | (with_reducible refine Below.alloc ?_ ?_ _) | (with_reducible refine Below.drew ?_) | (with_reducible refine below_drewN ?_ _) | (with_reducible refine Below.setCell ?_ ?_ _) | (with_reducible refine Below.trans ?_ (Below.mono (by with_reducible assumption) ?_)) | omega | (simp only [World.size_alloc, World.size_setCell, World.size_drew, size_drewN']; omega) | go_size))⟩
                      · have e1 : decide ((3 : Int) < (n1 : Int)) = false := by simp; omega
                        by_cases hm3 : 3 < m1
                        · have e2 : decide ((3 : Int) < (m1 : Int)) = true := by simp; omega
                          go_wp2
                          go_ret
                          exact ⟨lg_true, (by have z0 := Below.size hb3; (try simp only [World.size_alloc, World.size_setCell, World.size_drew, size_drewN'] at z0 ⊢; skip); repeat' (first | (with_reducible exact Below.refl _ _) | (with_reducible assumption) | (with_reducible refine Below.alloc ?_ ?_ _) | (with_reducible refine Below.drew ?_) | (with_reducible refine below_drewN ?_ _) | (with_reducible refine Below.setCell ?_ ?_ _) | (with_reducible refine Below.trans ?_ (Below.mono (by with_reducible assumption) ?_)) | omega | (simp only [World.size_alloc, World.size_setCell, World.size_drew, size_drewN']; omega) | go_size))⟩
                        · have e2 : decide ((3 : Int) < (m1 : Int)) = false := by simp; omega
                          have HT3 : Hid (∀ x, x < j + 1 → (R t k x).2.1.length ≤ 3 ∧ (R t k x).2.2.length ≤ 3) := by
                            show ∀ x, _
                            intro x hx
                            rcases Nat.lt_or_ge x j with h1 | h1
                            · exact HS3.out x h1
                            · have : x = j := by omega
                              subst this
                              rw [hln.out.1, hln.out.2]
                              omega
                          go_wp2
                          go_roundw
                          case rel => exact ⟨j + 1, by omega, by go_num, HT3.out, (by have z0 := Below.size hb3; (try simp only [World.size_alloc, World.size_setCell, World.size_drew, size_drewN'] at z0 ⊢; skip); repeat' (first | (with_reducible exact Below.refl _ _) | (with_reducible assumption) | (with_reducible refine Below.alloc ?_ ?_ _) | (with_reducible refine Below.drew ?_) | (with_reducible refine below_drewN ?_ _) | (with_reducible refine Below.setCell ?_ ?_ _) | (with_reducible refine Below.trans ?_ (Below.mono (by with_reducible assumption) ?_)) | omega | (simp only [World.size_alloc, World.size_setCell, World.size_drew, size_drewN']; omega) | go_size))⟩
                          case measure => simp [intOf]; omega
                    · have : j = lk := by omega
                      subst this
                      have HT2 : Hid (∀ x, x < k + 1 → SmallR (len t x) (R t x)) := by
                        show ∀ x, _
                        intro x hx
                        rcases Nat.lt_or_ge x k with h1 | h1
                        · exact HS2.out x h1
                        · have : x = k := by omega
                          subst this
                          exact ⟨by rw [← HLK.out]; exact HO2.out, fun i hi => HS3.out i (by rw [HLK.out]; exact hi)⟩
                      go_wp2
                      go_roundw
                      case rel => exact ⟨k + 1, by omega, by go_num, HT2.out, hb3⟩
                      case measure => simp [intOf]; omega
                · have e1 : decide ((7 : Int) < (lk : Int)) = true := by simp; omega
                  have e2 : decide ((lk : Int) ≤ 256) = false := by simp; omega
                  have e3 : decide ((1000 : Int) < (lk : Int)) = false := by simp; omega
                  clear h7
                  have h2k : lk ≤ 1000 := h8
                  go_wp2
                  clear e1 e3
                  go_loopw [49] (fun i wr => ∃ j, j ≤ lk ∧ i = .int .i64 (j : Int) ∧ (∀ x, x < j → (R t k x).2.1.length ≤ 3 ∧ (R t k x).2.2.length ≤ 3) ∧ Below w.heap.size w wr) (fun i _ => lk - (intOf i).toNat)
                  case atStart => exact ⟨0, Nat.zero_le _, rfl, fun x hx => by omega, hb2⟩
                  case round =>
                    obtain ⟨j, hj, rfl, hs3, hb3⟩ := hrel
                    have HS3 := Lib.hid hs3
                    clear hs3
                    have hb3z := hb3.size
                    by_cases hlt3 : j < lk
                    · obtain ⟨b', off', s1, A1, n1, c1, B1, m1, d1, rfl, hbb', f0, f1, f2, r1⟩ := (HR.out.kp (Kp.of_below hb3)).ra.at_ (show j < len t k by rw [← HLK.out]; exact hlt3)
                      have hln := Lib.hid r1.lens
                      clear r1
                      by_cases hn3 : 3 < n1
                      · have e1 : decide ((3 : Int) < (n1 : Int)) = true := by simp; omega
                        go_wp2
                        go_ret
                        exact ⟨lg_true, (by have z0 := Below.size hb3; (try simp only [World.size_alloc, World.size_setCell, World.size_drew, size_drewN'] at z0 ⊢; skip); repeat' (first | (with_reducible exact Below.refl _ _) | (with_reducible assumption) | (with_reducible refine Below.alloc ?_ ?_ _) | (with_reducible refine Below.drew ?_) | (with_reducible refine below_drewN ?_ _) | (with_reducible refine Below.setCell ?_ ?_ _) | (with_reducible refine Below.trans ?_ (Below.mono (by with_reducible assumption) ?_)) | omega | (simp only [World.size_alloc, World.size_setCell, World.size_drew, size_drewN']; omega) | go_size))⟩
                      · have e1 : decide ((3 : Int) < (n1 : Int)) = false := by simp; omega
                        by_cases hm3 : 3 < m1
                        · have e2 : decide ((3 : Int) < (m1 : Int)) = true := by simp; omega
                          go_wp2
                          go_ret
                          exact ⟨lg_true, (by have z0 := Below.size hb3; (try simp only [World.size_alloc, World.size_setCell, World.size_drew, size_drewN'] at z0 ⊢; skip); repeat' (first | (with_reducible exact Below.refl _ _) | (with_reducible assumption) | (with_reducible refine Below.alloc ?_ ?_ _) | (with_reducible refine Below.drew ?_) | (with_reducible refine below_drewN ?_ _) | (with_reducible refine Below.setCell ?_ ?_ _) | (with_reducible refine Below.trans ?_ (Below.mono (by with_reducible assumption) ?_)) | omega | (simp only [World.size_alloc, World.size_setCell, World.size_drew, size_drewN']; omega) | go_size))⟩
                        · have e2 : decide ((3 : Int) < (m1 : Int)) = false := by simp; omega
                          have HT3 : Hid (∀ x, x < j + 1 → (R t k x).2.1.length ≤ 3 ∧ (R t k x).2.2.length ≤ 3) := by
                            show ∀ x, _
                            intro x hx
                            rcases Nat.lt_or_ge x j with h1 | h1
                            · exact HS3.out x h1
                            · have : x = j := by omega
                              subst this
                              rw [hln.out.1, hln.out.2]
                              omega
                          go_wp2
                          go_roundw
                          case rel => exact ⟨j + 1, by omega, by go_num, HT3.out, (by have z0 := Below.size hb3; (try simp only [World.size_alloc, World.size_setCell, World.size_drew, size_drewN'] at z0 ⊢; skip); repeat' (first | (with_reducible exact Below.refl _ _) | (with_reducible assumption) | (with_reducible refine Below.alloc ?_ ?_ _) | (with_reducible refine Below.drew ?_) | (with_reducible refine below_drewN ?_ _) | (with_reducible refine Below.setCell ?_ ?_ _) | (with_reducible refine Below.trans ?_ (Below.mono (by with_reducible assumption) ?_)) | omega | (simp only [World.size_alloc, World.size_setCell, World.size_drew, size_drewN']; omega) | go_size))⟩
                          case measure => simp [intOf]; omega
                    · have : j = lk := by omega
                      subst this
                      have HT2 : Hid (∀ x, x < k + 1 → SmallR (len t x) (R t x)) := by
                        show ∀ x, _
                        intro x hx
                        rcases Nat.lt_or_ge x k with h1 | h1
                        · exact HS2.out x h1
                        · have : x = k := by omega
                          subst this
                          exact ⟨by rw [← HLK.out]; exact HO2.out, fun i hi => HS3.out i (by rw [HLK.out]; exact hi)⟩
                      go_wp2
                      go_roundw
                      case rel => exact ⟨k + 1, by omega, by go_num, HT2.out, hb3⟩
                      case measure => simp [intOf]; omega
            · have : k = nt := by omega
              subst this
              have HT : Hid (∀ x, x < t + 1 → SmallM (n x) (len x) (R x)) := by
                show ∀ x, _
                intro x hx
                rcases Nat.lt_or_ge x t with h1 | h1
                · exact HS.out x h1
                · have : x = t := by omega
                  subst this
                  exact ⟨by rw [← HN.out]; exact HO.out, fun i hi => HS2.out i (by rw [HN.out]; exact hi)⟩
              go_wp2
              go_roundw
              case rel => exact ⟨t + 1, by omega, by go_num, HT.out, hb2⟩
              case measure => simp [intOf]; omega
    · have : t = m := by omega
      subst this
      go_wp2
      go_ret
      exact ⟨⟨false, rfl, fun _ => HS.out⟩, hb⟩
end Go.Proofs.YtnljncncnohncaaDoor
namespace Go.Proofs.YtnljncncnohncaaDoor
open Go.RowKit
set_option linter.unusedSimpArgs false
set_option linter.unusedVariables false
set_option maxRecDepth 20000
attribute [local irreducible] nv wp win plainB validR valR canR
/-! ## the law's vector -/
theorem RowI.base {w : World} {b0 b1 n : Nat} {A : Option Addr} {R : Nat → Rw} (h : RowI w b0 A n R) (hb : b0 ≤ b1) : RowI w b1 A n R := by
  obtain ⟨V, h1, h2, h3⟩ := h
  exact ⟨V, fun k hk => (h1 k hk).base hb, h2, fun hn a ha => Nat.lt_of_lt_of_le (h3 hn a ha) hb⟩
theorem MatI.one {w : World} {b g n c : Nat} {A : Option Addr} {R : Nat → Rw} (hc : w.cell? ⟨g, 0, none⟩ = some (.slice A n c)) (hn : n ≤ c) (hg : g < b) (h : RowI w b A n R) : MatI w b (some ⟨g, 0, none⟩) 1 (fun _ => n) (fun _ => R) := by
  refine ⟨fun _ => A, fun _ => c, ⟨rfl, fun _ => ⟨g, 0, rfl, lt_of_cell hc, fun j u hu => ?_⟩⟩, fun _ a ha => ?_, fun i hi => ⟨hn, h⟩⟩
  · rw [Nat.zero_add]
    match j, hu with
    | 0, hu => simp [rowsC] at hu; subst hu; exact hc
    | j + 1, hu => simp [rowsC] at hu
  · injection ha with ha; subst ha; exact hg
def RetV (n : Nat) (R : Nat → Rw) (e : Ending) : Prop := ∃ b : Bool, e = .returned (.bool b) ∧ (b = true → SmallR n R)
theorem vector_any {w : World} {b0 n c : Nat} {A : Option Addr} {R : Nat → Rw} (h : RowI w b0 A n R) (hb : b0 ≤ w.heap.size) (hc : n ≤ c) :
    Calls Tryd.prog 13 #[.slice A n c] w fun e w' => RetV n R e ∧ Below w.heap.size w w' := by
  obtain ⟨W1, hW1⟩ : ∃ W1, W1 = (w.alloc (.cells #[.slice A n c] 23)).alloc (.cells #[.slice (some ⟨w.heap.size, 0, none⟩) 1 1] 22) := ⟨_, rfl⟩
  have hbw : Below w.heap.size w W1 := by rw [hW1]; exact (((Below.refl _ w).alloc (by simp) _).alloc (by simp) _)
  have hsz : W1.heap.size = w.heap.size + 2 := by rw [hW1]; simp
  have K := large_any (w := W1) (b0 := w.heap.size + 2) (g := w.heap.size + 1) (m := 1) (cm := 1) (n := fun _ => 1) (len := fun _ _ => n) (R := fun _ _ => R) (fun t ht => by
    obtain rfl : t = 0 := by omega
    refine ⟨some ⟨w.heap.size, 0, none⟩, 1, by rw [hW1]; exact cell_new' (by simp) rfl, MatI.one (g := w.heap.size) (c := c) (by rw [hW1]; exact Lib.cell?_alloc_some _ (cell_new' (by simp) rfl)) hc (by omega) ?_⟩
    exact (h.kp (Kp.of_below hbw)).base (by omega)) (by omega)
  rw [hW1] at K hbw
  replace K := Lib.hid K
  clear h hW1 hsz
  go_enter Tryd.func13, Tryd.ntmps13
  go_wp2_with (first | (go_at_call 12; (with_reducible refine (K.out).mono ?_); rintro e w3 ⟨⟨bb, rfl, hbb⟩, hb3⟩) | fail)
  have hb4 : Below w.heap.size w w3 := hbw.trans (hb3.mono (by simp; omega))
  go_ret
  exact ⟨⟨!bb, rfl, fun h => (hbb (by simpa using h) 0 (by omega)).2 0 (by omega)⟩, hb4⟩
end Go.Proofs.YtnljncncnohncaaDoor
namespace Go.Proofs.YtnljncncnohncaaDoor
open Go.RowKit
set_option linter.unusedSimpArgs false
set_option linter.unusedVariables false
set_option maxRecDepth 20000
attribute [local irreducible] nv wp win plainB validR valR canR
/-! ## numbers of errors; what the functions return at a matrix that is refused -/
theorem num_0 (w : World) : Calls Tryd.prog 16 #[.nilIface] w fun e w' => e = .returned (.int .i64 0) ∧ w = w' := by
  go_enter Tryd.func16, Tryd.ntmps16
  go_wp2
  go_ret
  exact ⟨rfl, rfl⟩
theorem num_n (n : Int) (w : World) : Calls Tryd.prog 16 #[.iface 42 (.int .i64 n)] w fun e w' => e = .returned (.int .i64 n) ∧ w = w' := by
  have hta : ∀ (x : Value) (w : World), (Instr.typeAssert (.iface 42 x) 28 42 true).run Tryd.prog w = .ok (.tuple #[x, .bool true]) w := fun _ _ => by kernel_rfl
  go_enter Tryd.func16, Tryd.ntmps16
  go_wp2
  go_ret
  exact ⟨rfl, rfl⟩
theorem num_e (c : Int) (w : World) : Calls Tryd.prog 16 #[errM c] w fun e w' => e = .returned (.int .i64 c) ∧ w = w' := by
  by_cases h : c = 0
  · subst h; exact num_0 w
  · rw [errM_n h]; exact num_n c w
section
variable {w : World} {b0 n ca : Nat} {A : Option Addr} {len : Nat → Nat} {R : Nat → Nat → Rw} {c : Int}
theorem check_err (h : MatI w b0 A n len R) (hn : n ≤ 1000000) (hl : ∀ i, i < n → len i ≤ 1000000) (hc : codeM n len = c) (h0 : c ≠ 0) :
    Calls Tryd.prog 24 #[.slice A n ca] w fun e w' => e = .returned (.iface 42 (.int .i64 c)) ∧ w = w' := by
  have := check_any (ca := ca) h hn hl
  rw [hc, errM_n h0] at this
  exact this
theorem apply_err (K : Hid (Calls Tryd.prog 24 #[.slice A n ca] w fun e w' => e = .returned (.iface 42 (.int .i64 c)) ∧ w = w')) (B : Value) :
    Calls Tryd.prog 34 #[.slice A n ca, B] w fun e w' => e = .returned (.tuple #[.slice none 0 0, .iface 42 (.int .i64 c)]) ∧ w = w' := by
  go_enter Tryd.func34, Tryd.ntmps34
  go_wp2_with (first | (go_at_call 24; (with_reducible refine (K.out).mono ?_); rintro e _ ⟨rfl, rfl⟩) | fail)
  go_ret2
  exact ⟨rfl, rfl⟩
theorem mul_err (K : Hid (Calls Tryd.prog 24 #[.slice A n ca] w fun e w' => e = .returned (.iface 42 (.int .i64 c)) ∧ w = w')) (B : Value) :
    Calls Tryd.prog 29 #[.slice A n ca, B] w fun e w' => e = .returned (.tuple #[.slice none 0 0, .iface 42 (.int .i64 c)]) ∧ w = w' := by
  go_enter Tryd.func29, Tryd.ntmps29
  go_wp2_with (first | (go_at_call 24; (with_reducible refine (K.out).mono ?_); rintro e _ ⟨rfl, rfl⟩) | fail)
  go_ret2
  exact ⟨rfl, rfl⟩
theorem reduce_err (K : Hid (Calls Tryd.prog 24 #[.slice A n ca] w fun e w' => e = .returned (.iface 42 (.int .i64 c)) ∧ w = w')) :
    Calls Tryd.prog 25 #[.slice A n ca] w fun e w' => e = .returned (.tuple #[.slice none 0 0, .slice none 0 0, .iface 42 (.int .i64 c)]) ∧ w = w' := by
  go_enter Tryd.func25, Tryd.ntmps25
  go_wp2_with (first | (go_at_call 24; (with_reducible refine (K.out).mono ?_); rintro e _ ⟨rfl, rfl⟩) | fail)
  go_ret3
  exact ⟨rfl, rfl⟩
theorem rank_err (K : Hid (Calls Tryd.prog 24 #[.slice A n ca] w fun e w' => e = .returned (.iface 42 (.int .i64 c)) ∧ w = w')) :
    Calls Tryd.prog 30 #[.slice A n ca] w fun e w' => e = .returned (.tuple #[.int .i64 0, .iface 42 (.int .i64 c)]) ∧ w = w' := by
  have KR := Lib.hid (reduce_err K)
  go_enter Tryd.func30, Tryd.ntmps30
  go_wp2_with (first | (go_at_call 25; (with_reducible refine (KR.out).mono ?_); rintro e _ ⟨rfl, rfl⟩) | fail)
  go_ret2
  exact ⟨rfl, rfl⟩
theorem kernel_err (K : Hid (Calls Tryd.prog 24 #[.slice A n ca] w fun e w' => e = .returned (.iface 42 (.int .i64 c)) ∧ w = w')) :
    Calls Tryd.prog 31 #[.slice A n ca] w fun e w' => e = .returned (.tuple #[.slice none 0 0, .iface 42 (.int .i64 c)]) ∧ w = w' := by
  have KR := Lib.hid (reduce_err K)
  go_enter Tryd.func31, Tryd.ntmps31
  go_wp2_with (first | (go_at_call 25; (with_reducible refine (KR.out).mono ?_); rintro e _ ⟨rfl, rfl⟩) | fail)
  go_ret2
  exact ⟨rfl, rfl⟩
theorem solve_err (K : Hid (Calls Tryd.prog 24 #[.slice A n ca] w fun e w' => e = .returned (.iface 42 (.int .i64 c)) ∧ w = w')) (B : Value) :
    Calls Tryd.prog 14 #[.slice A n ca, B] w fun e w' => e = .returned (.tuple #[.slice none 0 0, .iface 42 (.int .i64 c)]) ∧ w = w' := by
  go_enter Tryd.func14, Tryd.ntmps14
  go_wp2_with (first | (go_at_call 24; (with_reducible refine (K.out).mono ?_); rintro e _ ⟨rfl, rfl⟩) | fail)
  go_ret2
  exact ⟨rfl, rfl⟩
theorem det_err (K : Hid (∀ W, Below w.heap.size w W → Calls Tryd.prog 24 #[.slice A n ca] W fun e w' => e = .returned (.iface 42 (.int .i64 c)) ∧ W = w')) :
    Calls Tryd.prog 18 #[.slice A n ca] w fun e w' => e = .returned (.tuple #[zr, .iface 42 (.int .i64 c)]) ∧ Below w.heap.size w w' := by
  have hb := (Below.refl w.heap.size w).alloc (Nat.le_refl _) (.cells #[.bool false, .slice none 0 0, .slice none 0 0] 37)
  have K2 := Lib.hid (K.out _ hb)
  clear K
  go_enter Tryd.func18, Tryd.ntmps18
  go_wp2_with (first | (go_at_call 24; (with_reducible refine (K2.out).mono ?_); rintro e _ ⟨rfl, rfl⟩) | fail)
  refine bodyPost_ret (v := (.tuple #[zr, .iface 42 (.int .i64 c)])) (by simp [results, Tryd.results18, go_sem]) rfl ?_
  exact ⟨rfl, (by have z0 := Below.size hb; (try simp only [World.size_alloc, World.size_setCell, World.size_drew, size_drewN'] at z0 ⊢; skip); repeat' (first | (with_reducible exact Below.refl _ _) | (with_reducible assumption) | (with_reducible refine Below.alloc ?_ ?_ _) | (with_reducible refine Below.drew ?_) | (with_reducible refine below_drewN ?_ _) | (with_reducible refine Below.setCell ?_ ?_ _) | (with_reducible refine Below.trans ?_ (Below.mono (by with_reducible assumption) ?_)) | omega | (simp only [World.size_alloc, World.size_setCell, World.size_drew, size_drewN']; omega) | go_size))⟩
end
end Go.Proofs.YtnljncncnohncaaDoor
