/- Contracts of functions and lemmas, used by the proofs of the given statements. No condition beyond those that each lemma names. -/
import Derived.Test.YtmebdlilbnadgaaGreatDoorLinD
import Derived.Test.YtmebdlilbnadgaaGreatDoorJBase
namespace Go.Proofs.YtmebdlilbnadgaaGreatDoor
open Go.RowKit
set_option linter.unusedSimpArgs false
set_option linter.unusedVariables false
set_option maxRecDepth 20000
attribute [local irreducible] nv wp win plainB validR valR canR gj findR elim swp gl
/-! ## Check, of the program and of the reference -/
/-- the number of a matrix's error -/
def codeM (n : Nat) (len : Nat → Nat) : Int := if n = 0 then 11 else if len 0 = 0 then 11 else if 256 < n then 4 else if 256 < len 0 then 4 else if (List.range n).all (fun i => len i == len 0) then 0 else 11
theorem codeM_bad {n : Nat} {len : Nat → Nat} {k : Nat} (h1 : len 0 ≠ 0) (h2 : n ≤ 256) (h3 : len 0 ≤ 256) (hk : k < n) (h : len k ≠ len 0) : codeM n len = 11 := by
  have : ¬ ((List.range n).all (fun i => len i == len 0) = true) := by
    intro e
    have := List.all_eq_true.1 e k (List.mem_range.2 hk)
    exact h (by simpa using this)
  unfold codeM
  rw [if_neg (by omega), if_neg h1, if_neg (by omega), if_neg (by omega), if_neg this]
theorem codeM_ok {n : Nat} {len : Nat → Nat} (h0 : n ≠ 0) (h1 : len 0 ≠ 0) (h2 : n ≤ 256) (h3 : len 0 ≤ 256) (h : ∀ i, i < n → len i = len 0) : codeM n len = 0 := by
  have : (List.range n).all (fun i => len i == len 0) = true := List.all_eq_true.2 fun i hi => by simpa using h i (List.mem_range.1 hi)
  unfold codeM
  rw [if_neg h0, if_neg h1, if_neg (by omega), if_neg (by omega), if_pos this]
theorem codeM_zero {n : Nat} {len : Nat → Nat} (h : codeM n len = 0) : 0 < n ∧ 0 < len 0 ∧ n ≤ 256 ∧ len 0 ≤ 256 ∧ ∀ i, i < n → len i = len 0 := by
  unfold codeM at h
  split at h
  · omega
  · split at h
    · omega
    · split at h
      · omega
      · split at h
        · omega
        · split at h
          · rename_i h1 h2 h3 h4 h5
            exact ⟨by omega, by omega, by omega, by omega, fun i hi => by have := List.all_eq_true.1 h5 i (List.mem_range.2 hi); simpa using this⟩
          · omega
theorem MatI.at0 {w : World} {b0 n : Nat} {A : Option Addr} {len : Nat → Nat} {R : Nat → Nat → Rw} (h : MatI w b0 A n len R) (hn : 0 < n) : ∃ b off A0 c0, A = some ⟨b, off, none⟩ ∧ w.cell? ⟨b, off, none⟩ = some (.slice A0 (len 0) c0) ∧ ∀ i, i < n → ∃ Ai ci, w.cell? ⟨b, off + i, none⟩ = some (.slice Ai (len i) ci) := by
  obtain ⟨Ar, cp, h1, h2, h3⟩ := h
  obtain ⟨b, off, rfl, hb, hc⟩ := h1.2 hn
  exact ⟨b, off, Ar 0, cp 0, rfl, hc 0 _ (rowsC_get hn), fun i hi => ⟨Ar i, cp i, hc i _ (rowsC_get hi)⟩⟩
set_option maxHeartbeats 4000000 in
theorem check_any {w : World} {b0 n ca : Nat} {A : Option Addr} {len : Nat → Nat} {R : Nat → Nat → Rw} (h : MatI w b0 A n len R) (hn : n ≤ 1000000) (hl : ∀ i, i < n → len i ≤ 1000000) :
    Calls Tryz.prog 91 #[.slice A n ca] w fun e w' => e = .returned (errM (codeM n len)) ∧ w = w' := by
  rcases Nat.eq_zero_or_pos n with h0 | h0
  · subst h0
    go_enter Tryz.func91, Tryz.ntmps91
    go_wp2
    go_ret
    exact ⟨rfl, rfl⟩
  · have hn0 : ((n : Int) == 0) = false := beq_eq_false_iff_ne.2 (by omega)
    have hnp : (0 : Int) < (n : Int) := by omega
    obtain ⟨b, off, A0, c0, rfl, hc0, hrows⟩ := h.at0 h0
    have hl0 := hl 0 h0
    have HR := Lib.hid hrows
    have HL := Lib.hid hl
    clear h hrows hl
    obtain ⟨m, hm⟩ : ∃ m, m = len 0 := ⟨_, rfl⟩
    rw [← hm] at hc0 hl0
    have HM := Lib.hid hm
    by_cases hm0 : m = 0
    · have HE : Hid (codeM n len = 11) := by show _ = _; unfold codeM; rw [if_neg (by omega), if_pos (by omega)]
      clear hm
      subst hm0
      go_enter Tryz.func91, Tryz.ntmps91
      go_wp2
      go_ret
      exact ⟨by rw [HE.out]; rfl, rfl⟩
    · have hm1 : ((m : Int) == 0) = false := beq_eq_false_iff_ne.2 (by omega)
      by_cases hbig : 256 < n ∨ 256 < m
      · have HE : Hid (codeM n len = 4) := by
          show _ = _
          unfold codeM
          rw [if_neg (by omega), if_neg (by omega)]
          by_cases h1 : 256 < n
          · rw [if_pos h1]
          · rw [if_neg h1, if_pos (by omega)]
        clear hm
        by_cases h1 : 256 < n
        · have h2 : decide ((256 : Int) < (n : Int)) = true := by simp; omega
          go_enter Tryz.func91, Tryz.ntmps91
          go_wp2
          go_ret
          exact ⟨by rw [HE.out]; rfl, rfl⟩
        · have h2 : decide ((256 : Int) < (n : Int)) = false := by simp; omega
          have h3 : decide ((256 : Int) < (m : Int)) = true := by simp; omega
          go_enter Tryz.func91, Tryz.ntmps91
          go_wp2
          go_ret
          exact ⟨by rw [HE.out]; rfl, rfl⟩
      · have h2 : decide ((256 : Int) < (n : Int)) = false := by simp; omega
        have h3 : decide ((256 : Int) < (m : Int)) = false := by simp; omega
        rw [not_or] at hbig
        clear hm
        go_enter Tryz.func91, Tryz.ntmps91
        go_wp2
        go_loop [29] (fun i => ∃ k : Nat, k ≤ n ∧ i = .int .i64 k ∧ ∀ x, x < k → len x = len 0) (fun i => n - (intOf i).toNat)
        case atStart => exact ⟨0, Nat.zero_le _, rfl, fun x hx => by omega⟩
        case round =>
          obtain ⟨k, hk, rfl, hz⟩ := hrel
          have HZ := Lib.hid hz
          clear hz
          by_cases hlt : k < n
          · obtain ⟨Ai, ci, hci⟩ := HR.out k hlt
            have hlk := HL.out k hlt
            have hi1 : (k : Int) < (n : Int) := by omega
            by_cases he : len k = m
            · rw [he] at hci
              have HE := Lib.hid he
              clear he
              go_wp2
              go_round
              case rel =>
                refine ⟨k + 1, by omega, by go_num, fun x hx => ?_⟩
                rcases Nat.lt_or_ge x k with h1 | h1
                · exact HZ.out x h1
                · have : x = k := by omega
                  rw [this, HE.out, HM.out]
              case measure => simp [intOf]; omega
            · have HE : Hid (codeM n len = 11) := codeM_bad (by have := HM.out; omega) (by omega) (by have := HM.out; omega) hlt (by rw [← HM.out]; exact he)
              have he1 : ((len k : Int) == (m : Int)) = false := beq_eq_false_iff_ne.2 (by omega)
              have he2 : ((len k : Int) != (m : Int)) = true := by rw [bne_iff_ne]; omega
              have he3 : (len k == m) = false := beq_eq_false_iff_ne.2 he
              have he4 : (len k != m) = true := by rw [bne_iff_ne]; exact he
              clear he
              generalize len k = lk at *
              go_wp2
              go_ret
              exact ⟨by rw [HE.out]; rfl, rfl⟩
          · have HE : Hid (codeM n len = 0) := codeM_ok (by omega) (by have := HM.out; omega) (by omega) (by have := HM.out; omega) (fun i hi => HZ.out i (by omega))
            go_wp2
            go_ret
            exact ⟨by rw [HE.out]; rfl, rfl⟩
end Go.Proofs.YtmebdlilbnadgaaGreatDoor
