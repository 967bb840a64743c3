/- Contracts of functions and lemmas, used by the proofs of the given statements. No condition beyond those that each lemma names. -/
import Derived.Test.YtnljncncnohncaaDoorLinD
import Derived.Test.YtnljncncnohncaaDoorJLinP
namespace Go.Proofs.YtnljncncnohncaaDoor
open Go.RowKit
set_option linter.unusedSimpArgs false
set_option linter.unusedVariables false
set_option maxRecDepth 20000
attribute [local irreducible] nv wp win plainB validR valR canR gj findR elim swp gl
/-! ## Check, of the program and of the reference -/
/-- the number of a matrix's error -/
def codeM (n : Nat) (len : Nat → Nat) : Int := if n = 0 then 11 else if len 0 = 0 then 11 else if 256 < n then 4 else if 256 < len 0 then 4 else if (List.range n).all (fun i => len i == len 0) then 0 else 11
def errM (c : Int) : Value := if c = 0 then .nilIface else .iface 42 (.int .i64 c)
theorem errM_0 : errM 0 = .nilIface := rfl
theorem errM_n {c : Int} (h : c ≠ 0) : errM c = .iface 42 (.int .i64 c) := by simp [errM, h]
theorem codeM_bad {n : Nat} {len : Nat → Nat} {k : Nat} (h1 : len 0 ≠ 0) (h2 : n ≤ 256) (h3 : len 0 ≤ 256) (hk : k < n) (h : len k ≠ len 0) : codeM n len = 11 := by
  have : ¬ ((List.range n).all (fun i => len i == len 0) = true) := by
    intro e
    have := List.all_eq_true.1 e k (List.mem_range.2 hk)
    exact h (by simpa using this)
  unfold codeM
  rw [if_neg (by omega), if_neg h1, if_neg (by omega), if_neg (by omega), if_neg this]
theorem codeM_ok {n : Nat} {len : Nat → Nat} (h0 : n ≠ 0) (h1 : len 0 ≠ 0) (h2 : n ≤ 256) (h3 : len 0 ≤ 256) (h : ∀ i, i < n → len i = len 0) : codeM n len = 0 := by
  have : (List.range n).all (fun i => len i == len 0) = true := List.all_eq_true.2 fun i hi => by simpa using h i (List.mem_range.1 hi)
  unfold codeM
  rw [if_neg h0, if_neg h1, if_neg (by omega), if_neg (by omega), if_pos this]
theorem codeM_zero {n : Nat} {len : Nat → Nat} (h : codeM n len = 0) : 0 < n ∧ 0 < len 0 ∧ n ≤ 256 ∧ len 0 ≤ 256 ∧ ∀ i, i < n → len i = len 0 := by
  unfold codeM at h
  split at h
  · omega
  · split at h
    · omega
    · split at h
      · omega
      · split at h
        · omega
        · split at h
          · rename_i h1 h2 h3 h4 h5
            exact ⟨by omega, by omega, by omega, by omega, fun i hi => by have := List.all_eq_true.1 h5 i (List.mem_range.2 hi); simpa using this⟩
          · omega
theorem MatI.at0 {w : World} {b0 n : Nat} {A : Option Addr} {len : Nat → Nat} {R : Nat → Nat → Rw} (h : MatI w b0 A n len R) (hn : 0 < n) : ∃ b off A0 c0, A = some ⟨b, off, none⟩ ∧ w.cell? ⟨b, off, none⟩ = some (.slice A0 (len 0) c0) ∧ ∀ i, i < n → ∃ Ai ci, w.cell? ⟨b, off + i, none⟩ = some (.slice Ai (len i) ci) := by
  obtain ⟨Ar, cp, h1, h2, h3⟩ := h
  obtain ⟨b, off, rfl, hb, hc⟩ := h1.2 hn
  exact ⟨b, off, Ar 0, cp 0, rfl, hc 0 _ (rowsC_get hn), fun i hi => ⟨Ar i, cp i, hc i _ (rowsC_get hi)⟩⟩
set_option maxHeartbeats 4000000 in
theorem check_any {w : World} {b0 n ca : Nat} {A : Option Addr} {len : Nat → Nat} {R : Nat → Nat → Rw} (h : MatI w b0 A n len R) (hn : n ≤ 1000000) (hl : ∀ i, i < n → len i ≤ 1000000) :
    Calls Tryd.prog 24 #[.slice A n ca] w fun e w' => e = .returned (errM (codeM n len)) ∧ w = w' := by
  rcases Nat.eq_zero_or_pos n with h0 | h0
  · subst h0
    go_enter Tryd.func24, Tryd.ntmps24
    go_wp2
    go_ret
    exact ⟨rfl, rfl⟩
  · have hn0 : ((n : Int) == 0) = false := beq_eq_false_iff_ne.2 (by omega)
    have hnp : (0 : Int) < (n : Int) := by omega
    obtain ⟨b, off, A0, c0, rfl, hc0, hrows⟩ := h.at0 h0
    have hl0 := hl 0 h0
    have HR := Lib.hid hrows
    have HL := Lib.hid hl
    clear h hrows hl
    obtain ⟨m, hm⟩ : ∃ m, m = len 0 := ⟨_, rfl⟩
    rw [← hm] at hc0 hl0
    have HM := Lib.hid hm
    by_cases hm0 : m = 0
    · have HE : Hid (codeM n len = 11) := by show _ = _; unfold codeM; rw [if_neg (by omega), if_pos (by omega)]
      clear hm
      subst hm0
      go_enter Tryd.func24, Tryd.ntmps24
      go_wp2
      go_ret
      exact ⟨by rw [HE.out]; rfl, rfl⟩
    · have hm1 : ((m : Int) == 0) = false := beq_eq_false_iff_ne.2 (by omega)
      by_cases hbig : 256 < n ∨ 256 < m
      · have HE : Hid (codeM n len = 4) := by
          show _ = _
          unfold codeM
          rw [if_neg (by omega), if_neg (by omega)]
          by_cases h1 : 256 < n
          · rw [if_pos h1]
          · rw [if_neg h1, if_pos (by omega)]
        clear hm
        by_cases h1 : 256 < n
        · have h2 : decide ((256 : Int) < (n : Int)) = true := by simp; omega
          go_enter Tryd.func24, Tryd.ntmps24
          go_wp2
          go_ret
          exact ⟨by rw [HE.out]; rfl, rfl⟩
        · have h2 : decide ((256 : Int) < (n : Int)) = false := by simp; omega
          have h3 : decide ((256 : Int) < (m : Int)) = true := by simp; omega
          go_enter Tryd.func24, Tryd.ntmps24
          go_wp2
          go_ret
          exact ⟨by rw [HE.out]; rfl, rfl⟩
      · have h2 : decide ((256 : Int) < (n : Int)) = false := by simp; omega
        have h3 : decide ((256 : Int) < (m : Int)) = false := by simp; omega
        rw [not_or] at hbig
        clear hm
        go_enter Tryd.func24, Tryd.ntmps24
        go_wp2
        go_loop [29] (fun i => ∃ k : Nat, k ≤ n ∧ i = .int .i64 k ∧ ∀ x, x < k → len x = len 0) (fun i => n - (intOf i).toNat)
        case atStart => exact ⟨0, Nat.zero_le _, rfl, fun x hx => by omega⟩
        case round =>
          obtain ⟨k, hk, rfl, hz⟩ := hrel
          have HZ := Lib.hid hz
          clear hz
          by_cases hlt : k < n
          · obtain ⟨Ai, ci, hci⟩ := HR.out k hlt
            have hlk := HL.out k hlt
            have hi1 : (k : Int) < (n : Int) := by omega
            by_cases he : len k = m
            · rw [he] at hci
              have HE := Lib.hid he
              clear he
              go_wp2
              go_round
              case rel =>
                refine ⟨k + 1, by omega, by go_num, fun x hx => ?_⟩
                rcases Nat.lt_or_ge x k with h1 | h1
                · exact HZ.out x h1
                · have : x = k := by omega
                  rw [this, HE.out, HM.out]
              case measure => simp [intOf]; omega
            · have HE : Hid (codeM n len = 11) := codeM_bad (by have := HM.out; omega) (by omega) (by have := HM.out; omega) hlt (by rw [← HM.out]; exact he)
              have he1 : ((len k : Int) == (m : Int)) = false := beq_eq_false_iff_ne.2 (by omega)
              have he2 : ((len k : Int) != (m : Int)) = true := by rw [bne_iff_ne]; omega
              have he3 : (len k == m) = false := beq_eq_false_iff_ne.2 he
              have he4 : (len k != m) = true := by rw [bne_iff_ne]; exact he
              clear he
              generalize len k = lk at *
              go_wp2
              go_ret
              exact ⟨by rw [HE.out]; rfl, rfl⟩
          · have HE : Hid (codeM n len = 0) := codeM_ok (by omega) (by have := HM.out; omega) (by omega) (by have := HM.out; omega) (fun i hi => HZ.out i (by omega))
            go_wp2
            go_ret
            exact ⟨by rw [HE.out]; rfl, rfl⟩
set_option maxHeartbeats 4000000 in
theorem rcheck_any {w : World} {b0 n ca : Nat} {A : Option Addr} {len : Nat → Nat} {R : Nat → Nat → Rw} (h : MatI w b0 A n len R) (hn : n ≤ 1000000) (hl : ∀ i, i < n → len i ≤ 1000000) :
    Calls Tryd.prog 19 #[.slice A n ca] w fun e w' => e = .returned (.int .i64 (codeM n len)) ∧ w = w' := by
  rcases Nat.eq_zero_or_pos n with h0 | h0
  · subst h0
    go_enter Tryd.func19, Tryd.ntmps19
    go_wp2
    go_ret
    exact ⟨rfl, rfl⟩
  · have hn0 : ((n : Int) == 0) = false := beq_eq_false_iff_ne.2 (by omega)
    have hnp : (0 : Int) < (n : Int) := by omega
    obtain ⟨b, off, A0, c0, rfl, hc0, hrows⟩ := h.at0 h0
    have hl0 := hl 0 h0
    have HR := Lib.hid hrows
    have HL := Lib.hid hl
    clear h hrows hl
    obtain ⟨m, hm⟩ : ∃ m, m = len 0 := ⟨_, rfl⟩
    rw [← hm] at hc0 hl0
    have HM := Lib.hid hm
    by_cases hm0 : m = 0
    · have HE : Hid (codeM n len = 11) := by show _ = _; unfold codeM; rw [if_neg (by omega), if_pos (by omega)]
      clear hm
      subst hm0
      go_enter Tryd.func19, Tryd.ntmps19
      go_wp2
      go_ret
      exact ⟨by rw [HE.out]; rfl, rfl⟩
    · have hm1 : ((m : Int) == 0) = false := beq_eq_false_iff_ne.2 (by omega)
      by_cases hbig : 256 < n ∨ 256 < m
      · have HE : Hid (codeM n len = 4) := by
          show _ = _
          unfold codeM
          rw [if_neg (by omega), if_neg (by omega)]
          by_cases h1 : 256 < n
          · rw [if_pos h1]
          · rw [if_neg h1, if_pos (by omega)]
        clear hm
        by_cases h1 : 256 < n
        · have h2 : decide ((256 : Int) < (n : Int)) = true := by simp; omega
          go_enter Tryd.func19, Tryd.ntmps19
          go_wp2
          go_ret
          exact ⟨by rw [HE.out]; rfl, rfl⟩
        · have h2 : decide ((256 : Int) < (n : Int)) = false := by simp; omega
          have h3 : decide ((256 : Int) < (m : Int)) = true := by simp; omega
          go_enter Tryd.func19, Tryd.ntmps19
          go_wp2
          go_ret
          exact ⟨by rw [HE.out]; rfl, rfl⟩
      · have h2 : decide ((256 : Int) < (n : Int)) = false := by simp; omega
        have h3 : decide ((256 : Int) < (m : Int)) = false := by simp; omega
        rw [not_or] at hbig
        clear hm
        go_enter Tryd.func19, Tryd.ntmps19
        go_wp2
        go_loop [27] (fun i => ∃ k : Nat, k ≤ n ∧ i = .int .i64 k ∧ ∀ x, x < k → len x = len 0) (fun i => n - (intOf i).toNat)
        case atStart => exact ⟨0, Nat.zero_le _, rfl, fun x hx => by omega⟩
        case round =>
          obtain ⟨k, hk, rfl, hz⟩ := hrel
          have HZ := Lib.hid hz
          clear hz
          by_cases hlt : k < n
          · obtain ⟨Ai, ci, hci⟩ := HR.out k hlt
            have hlk := HL.out k hlt
            have hi1 : (k : Int) < (n : Int) := by omega
            by_cases he : len k = m
            · rw [he] at hci
              have HE := Lib.hid he
              clear he
              go_wp2
              go_round
              case rel =>
                refine ⟨k + 1, by omega, by go_num, fun x hx => ?_⟩
                rcases Nat.lt_or_ge x k with h1 | h1
                · exact HZ.out x h1
                · have : x = k := by omega
                  rw [this, HE.out, HM.out]
              case measure => simp [intOf]; omega
            · have HE : Hid (codeM n len = 11) := codeM_bad (by have := HM.out; omega) (by omega) (by have := HM.out; omega) hlt (by rw [← HM.out]; exact he)
              have he1 : ((len k : Int) == (m : Int)) = false := beq_eq_false_iff_ne.2 (by omega)
              have he2 : ((len k : Int) != (m : Int)) = true := by rw [bne_iff_ne]; omega
              have he3 : (len k == m) = false := beq_eq_false_iff_ne.2 he
              have he4 : (len k != m) = true := by rw [bne_iff_ne]; exact he
              clear he
              generalize len k = lk at *
              go_wp2
              go_ret
              exact ⟨by rw [HE.out]; rfl, rfl⟩
          · have HE : Hid (codeM n len = 0) := codeM_ok (by omega) (by have := HM.out; omega) (by omega) (by have := HM.out; omega) (fun i hi => HZ.out i (by omega))
            go_wp2
            go_ret
            exact ⟨by rw [HE.out]; rfl, rfl⟩
end Go.Proofs.YtnljncncnohncaaDoor
namespace Go.Proofs.YtnljncncnohncaaDoor
open Go.RowKit
set_option linter.unusedSimpArgs false
set_option linter.unusedVariables false
set_option maxRecDepth 20000
/-! ## a fraction in a variable of the call's own, beside a matrix -/
/-- no row of the matrix lies in block bd -/
def NB (w : World) (bo n bd : Nat) : Prop := ∀ i, i < n → ∀ v, w.cell? ⟨bo, i, none⟩ = some v → v.ownBlock ≠ some bd
section
variable {w w' : World} {b0 bo co n bd c m : Nat} {len : Nat → Nat} {M : Mf} {R : Nat → Rw}
theorem NB.keep (h : NB w bo n bd) (hc : ∀ i, i < n → w'.cell? ⟨bo, i, none⟩ = w.cell? ⟨bo, i, none⟩) : NB w' bo n bd := fun i hi v hv => h i hi v ((hc i hi).symm.trans hv)
theorem NB.below (h : NB w bo n bd) (hb : Below w.heap.size w w') (ho : bo < w.heap.size) : NB w' bo n bd := h.keep fun i _ => below_at hb bo i ho
theorem MatG.nb (h : MatG w b0 bo co n len M) : NB w bo n w.heap.size := by
  intro i hi v hv e
  obtain ⟨A, d, hX⟩ := h.row i
  rw [hX.cell hi] at hv
  injection hv with hv
  subst hv
  have := (own_lt (hX.own hi) _ e).2
  omega
theorem MatG.other (h : MatG w b0 bo co n len M) (hR : OwR w b0 (some ⟨bd, 0, none⟩) c m R) (hn : NB w bo n bd) (hg : w.grownBy w' (some bd)) : MatG w' b0 bo co n len M ∧ Kp b0 w w' ∧ NB w' bo n bd ∧ KT w w' := by
  have hk := hR.kp hg
  obtain ⟨_, cur, hb⟩ := h.block
  obtain ⟨_, cur', hb'⟩ := hR.block
  have hne : bo ≠ bd := by
    intro e
    subst e
    rw [hb] at hb'
    injection hb' with hb'
    injection hb' with _ hb' _
    exact absurd hb' (by decide)
  have hlt := h.lt
  have hG := h
  obtain ⟨A, d, Ar, cp, e1, e2, hd, h1, h2⟩ := h
  refine ⟨⟨A, d, Ar, cp, e1, e2, hd, World.ownsRow.kept h1 hg (.inr fun e => by injection e with e; exact hne e), fun j hj => (h2 j hj).keepA hg hk ?_⟩, hk, hn.keep fun i _ => grown_at hg i hlt hne, hR.kt hg⟩
  intro a ha e
  have := hn j hj _ (show w.cell? ⟨bo, j, none⟩ = some (.slice (Ar j) (len j) (cp j)) by rw [World.ownsRow.cellAt h1 j (by omega), rowsC_get hj])
  rw [ha] at this
  exact this e.symm
theorem NB.ne (h : NB w bo n bd) {i g d k : Nat} (hi : i < n) (hc : w.cell? ⟨bo, i, none⟩ = some (.slice (some ⟨g, 0, none⟩) k d)) : bd ≠ g := by
  have := h i hi _ hc
  intro e
  exact this (by rw [e]; rfl)
theorem NB.swap (h : NB w bo n bd) {i j : Nat} {u v : Value} (hi : i < n) (hj : j < n) (hu : w.cell? ⟨bo, i, none⟩ = some u) (hv : w.cell? ⟨bo, j, none⟩ = some v) : NB ((w.setCell ⟨bo, i, none⟩ v).setCell ⟨bo, j, none⟩ u) bo n bd := by
  intro x hx y hy
  by_cases e : x = j
  · subst e
    rw [World.cell?_setCell_same _ _ _ (cell_set_eq hu hv)] at hy
    injection hy with hy
    subst hy
    exact h i hi _ hu
  · rw [World.cell?_setCell_other _ _ _ _ (by intro e2; injection e2 with _ e2 _; exact e e2.symm)] at hy
    by_cases e2 : x = i
    · subst e2
      rw [World.cell?_setCell_same _ _ _ hu] at hy
      injection hy with hy
      subst hy
      exact h j hj _ hv
    · rw [World.cell?_setCell_other _ _ _ _ (by intro e3; injection e3 with _ e3 _; exact e2 e3.symm)] at hy
      exact h x hx _ hy
theorem OwR.lit {s : Bool} {A : Option Addr} {k d : Nat} {B : Option Addr} {l e : Nat} {r : Rw} (hb : b0 ≤ w.heap.size) (hr : RdS w b0 (rv s A k d B l e) r) :
    OwR (w.alloc (.cells #[.bool s, .slice A k d, .slice B l e] 37)) b0 (some ⟨w.heap.size, 0, none⟩) 1 1 (fun _ => r) :=
  ⟨fun _ => rv s A k d B l e, fun _ _ => hr.kp (Kp.of_below ((Below.refl _ _).alloc (Nat.le_refl _) _)), World.ownsRow_lit w #[.bool s, .slice A k d, .slice B l e] 1 hb (by unfold maxLen; omega) (by simp)⟩
/-- what lies in a variable -/
theorem OwR.var (h : OwR w b0 (some ⟨bd, 0, none⟩) 1 1 R) : ∃ s A1 n1 c1 B1 m1 d1, w.cell? ⟨bd, 0, none⟩ = some (.bool s) ∧ w.cell? ⟨bd, 1, none⟩ = some (.slice A1 n1 c1) ∧ w.cell? ⟨bd, 2, none⟩ = some (.slice B1 m1 d1) ∧ RdS w b0 (rv s A1 n1 c1 B1 m1 d1) (R 0) := by
  obtain ⟨s, A1, n1, c1, B1, m1, d1, h0, h1, h2, h3⟩ := h.at_ (show 0 < 1 by omega)
  rw [Nat.zero_mul] at h0 h1 h2
  rw [Nat.zero_add] at h1 h2
  exact ⟨s, A1, n1, c1, B1, m1, d1, h0, h1, h2, h3⟩
theorem OwR.setVar (h : OwR w b0 (some ⟨bd, 0, none⟩) 1 1 R) {s : Bool} {A1 : Option Addr} {n1 c1 : Nat} {B1 : Option Addr} {m1 d1 : Nat} {r : Rw} (hr : RdS w b0 (rv s A1 n1 c1 B1 m1 d1) r) :
    OwR (((w.setCell ⟨bd, 0, none⟩ (.bool s)).setCell ⟨bd, 1, none⟩ (.slice A1 n1 c1)).setCell ⟨bd, 2, none⟩ (.slice B1 m1 d1)) b0 (some ⟨bd, 0, none⟩) 1 1 (fun _ => r) ∧
    w.grownBy (((w.setCell ⟨bd, 0, none⟩ (.bool s)).setCell ⟨bd, 1, none⟩ (.slice A1 n1 c1)).setCell ⟨bd, 2, none⟩ (.slice B1 m1 d1)) (some bd) := by
  have := h.set (show 0 < 1 by omega) hr
  rw [Nat.zero_mul, Nat.zero_add, Nat.zero_add] at this
  exact ⟨this.1.congr fun k hk => by have : k = 0 := by omega
                                     rw [this, upd_same], this.2⟩
theorem OwR.ne_o (h : OwR w b0 (some ⟨bd, 0, none⟩) c m R) (hG : MatG w b0 bo co n len M) : bd ≠ bo := by
  obtain ⟨_, cur, hb⟩ := hG.block
  obtain ⟨_, cur', hb'⟩ := h.block
  intro e
  subst e
  rw [hb] at hb'
  injection hb' with hb'
  injection hb' with _ hb' _
  exact absurd hb' (by decide)
end
end Go.Proofs.YtnljncncnohncaaDoor
