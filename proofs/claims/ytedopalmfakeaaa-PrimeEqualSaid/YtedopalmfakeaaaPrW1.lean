/- Contracts of functions and lemmas, used by the proofs of the given statements. No condition beyond those that each lemma names. -/
import Derived.Test.YtedopalmfakeaaaFrmW6
import Derived.Test.YtedopalmfakeaaaJCubeCnt
namespace Go.Proofs.Ytedopalmfakeaaa
open Go.RowKit
set_option linter.unusedSimpArgs false
set_option linter.unusedVariables false
set_option maxRecDepth 20000
/-! ## package prime: tables in memory; wide, narrow -/
def EvI (w : World) (p n : Nat) (ev : Nat → Nat) : Prop := ∃ Ae ce, w.cell? ⟨p, 0, none⟩ = some (.slice Ae n ce) ∧ RdJ w Ae n (fun k => (ev k : Int))
def TabI (w : World) (p n : Nat) (ev : Nat → Nat) (T : Nat → Bool) : Prop := EvI w p n ev ∧ ∃ At ct, w.cell? ⟨p, 1, none⟩ = some (.slice At (2 ^ n) ct) ∧ RdV w At (2 ^ n) T
theorem EvI.below {w W : World} {p n : Nat} {ev : Nat → Nat} (h : EvI w p n ev) (hb : Below w.heap.size w W) : EvI W p n ev := by
  obtain ⟨Ae, ce, c0, re⟩ := h
  exact ⟨Ae, ce, (below_at hb p 0 (lt_of_cell c0)).trans c0, re.below hb⟩
theorem TabI.below {w W : World} {p n : Nat} {ev : Nat → Nat} {T : Nat → Bool} (h : TabI w p n ev T) (hb : Below w.heap.size w W) : TabI W p n ev T := by
  obtain ⟨h1, At, ct, c1, rt⟩ := h
  exact ⟨h1.below hb, At, ct, (below_at hb p 1 (lt_of_cell c1)).trans c1, rt.below hb⟩
set_option maxHeartbeats 2000000 in
theorem wide_any {w : World} {p n s : Nat} {ev : Nat → Nat} (h : EvI w p n ev) (hn : n ≤ 24) (hev : ∀ k, k < n → ev k < 24) (hs : s < 16777216) :
    Calls Try.prog 118 #[.pointer (some ⟨p, 0, none⟩), .int .i64 (s : Int)] w fun e w' => e = .returned (.int .i64 (widN n ev s : Nat)) ∧ w = w' := by
  obtain ⟨Ae, ce, c0, re⟩ := h
  have HR : Hid (∀ k, mskE ev (fun k => s.testBit k) (k + 1) = if s.testBit (k) then mskE ev (fun k => s.testBit k) k ||| 2 ^ (ev k) else mskE ev (fun k => s.testBit k) k) := fun k => rfl
  have HV : Hid (widN n ev s = mskE ev (fun k => s.testBit k) n) := rfl
  have hlt : ∀ k, k ≤ n → mskE ev (fun k => s.testBit k) k < 16777216 := fun k => by
    induction k with
    | zero => intro _; simp [mskE]
    | succ k ih =>
      intro hk
      have h1 := ih (by omega)
      rw [HR.out]
      split
      · exact or_lt24 h1 (pow_lt24 (by have := hev k (by omega); omega))
      · exact h1
  have HZ : Hid (mskE ev (fun k => s.testBit k) 0 = 0) := rfl
  generalize widN n ev s = R at *
  generalize mskE ev (fun k => s.testBit k) = M at *
  go_enter Try.func118, Try.ntmps118
  go_wp2
  go_loopw [5, 13] (fun o i wr => ∃ k : Nat, k ≤ n ∧ o = .int .i64 (M k : Nat) ∧ i = .int .i64 k ∧ w = wr) (fun _ i _ => n - (intOf i).toNat)
  case atStart => exact ⟨0, Nat.zero_le _, by rw [HZ.out]; rfl, rfl, rfl⟩
  case round =>
    obtain ⟨k, hk, rfl, rfl, rfl⟩ := hrel
    by_cases hkn : k < n
    · obtain ⟨b, off, rfl, hb, z⟩ := re.at_ hkn
      have he := hev k hkn
      have hM := hlt k hk
      have HRk := Lib.hid (HR.out k)
      obtain ⟨y, hy⟩ : ∃ y, y = ev k := ⟨_, rfl⟩
      rw [← hy] at z he HRk
      clear hy
      have hx24 : (k) < 24 := by omega
      have s1 := shl_eq (k := y) (by omega)
      have t1 := shr_eq s (k)
      have hq : s / 2 ^ (k) < 16777216 := Nat.lt_of_le_of_lt (Nat.div_le_self _ _) hs
      have t2 : bits .and .i64 ((s / 2 ^ (k) : Nat) : Int) 1 = ((s / 2 ^ (k) % 2 : Nat) : Int) := by
        have := i64_and (s / 2 ^ (k)) 1 (by omega) (by omega)
        rw [Nat.and_one_is_mod] at this
        exact this
      rw [bit_div] at t2
      have hp := pow_lt24 (k := y) (by omega)
      have s2 := i64_or (M k) (2 ^ (y)) (by omega) (by omega)
      have s3 : bits .or .i64 ((M k : Nat) : Int) 0 = ((M k : Nat) : Int) := by
        have := i64_or (M k) 0 (by omega) (by omega)
        rw [Nat.or_zero] at this
        exact this
      cases hb : s.testBit (k)
      · rw [hb] at t2 HRk
        have t3 : bits .and .i64 ((s / 2 ^ (k) : Nat) : Int) 1 = 0 := t2
        have HE : Hid (M k = M (k + 1)) := HRk.out.symm
        clear hb t2 HRk s2
        generalize s / 2 ^ (k) = r1 at *
        generalize M k = q at *
        go_wp2
        go_roundw
        case rel => exact ⟨k + 1, by omega, by rw [← HE.out], by go_num, by trivial⟩
        case measure => simp [intOf]; omega
      · rw [hb] at t2 HRk
        have t3 : bits .and .i64 ((s / 2 ^ (k) : Nat) : Int) 1 = 1 := t2
        have HE : Hid (M k ||| 2 ^ (y) = M (k + 1)) := HRk.out.symm
        clear hb t2 HRk s3
        generalize s / 2 ^ (k) = r1 at *
        generalize M k ||| 2 ^ (y) = r at *
        generalize 2 ^ (y) = pw at *
        generalize M k = q at *
        go_wp2
        go_roundw
        case rel => exact ⟨k + 1, by omega, by rw [← HE.out], by go_num, by trivial⟩
        case measure => simp [intOf]; omega
    · have HE : Hid (M k = R) := by show _ = _; rw [HV.out, show k = n by omega]
      go_wp2
      go_ret
      exact ⟨by rw [← HE.out]; rfl, rfl⟩
set_option maxHeartbeats 2000000 in
theorem narrow_any {w : World} {p n s : Nat} {ev : Nat → Nat} (h : EvI w p n ev) (hn : n ≤ 24) (hev : ∀ k, k < n → ev k < 24) (hs : s < 16777216) :
    Calls Try.prog 122 #[.pointer (some ⟨p, 0, none⟩), .int .i64 (s : Int)] w fun e w' => e = .returned (.int .i64 (narN n ev s : Nat)) ∧ w = w' := by
  obtain ⟨Ae, ce, c0, re⟩ := h
  have HR : Hid (∀ k, mskE (fun k => k) (fun k => s.testBit (ev k)) (k + 1) = if s.testBit (ev k) then mskE (fun k => k) (fun k => s.testBit (ev k)) k ||| 2 ^ (k) else mskE (fun k => k) (fun k => s.testBit (ev k)) k) := fun k => rfl
  have HV : Hid (narN n ev s = mskE (fun k => k) (fun k => s.testBit (ev k)) n) := rfl
  have hlt : ∀ k, k ≤ n → mskE (fun k => k) (fun k => s.testBit (ev k)) k < 16777216 := fun k => by
    induction k with
    | zero => intro _; simp [mskE]
    | succ k ih =>
      intro hk
      have h1 := ih (by omega)
      rw [HR.out]
      split
      · exact or_lt24 h1 (pow_lt24 (by have := hev k (by omega); omega))
      · exact h1
  have HZ : Hid (mskE (fun k => k) (fun k => s.testBit (ev k)) 0 = 0) := rfl
  generalize narN n ev s = R at *
  generalize mskE (fun k => k) (fun k => s.testBit (ev k)) = M at *
  go_enter Try.func122, Try.ntmps122
  go_wp2
  go_loopw [5, 13] (fun o i wr => ∃ k : Nat, k ≤ n ∧ o = .int .i64 (M k : Nat) ∧ i = .int .i64 k ∧ w = wr) (fun _ i _ => n - (intOf i).toNat)
  case atStart => exact ⟨0, Nat.zero_le _, by rw [HZ.out]; rfl, rfl, rfl⟩
  case round =>
    obtain ⟨k, hk, rfl, rfl, rfl⟩ := hrel
    by_cases hkn : k < n
    · obtain ⟨b, off, rfl, hb, z⟩ := re.at_ hkn
      have he := hev k hkn
      have hM := hlt k hk
      have HRk := Lib.hid (HR.out k)
      obtain ⟨y, hy⟩ : ∃ y, y = ev k := ⟨_, rfl⟩
      rw [← hy] at z he HRk
      clear hy
      have hx24 : (y) < 24 := by omega
      have s1 := shl_eq (k := k) (by omega)
      have t1 := shr_eq s (y)
      have hq : s / 2 ^ (y) < 16777216 := Nat.lt_of_le_of_lt (Nat.div_le_self _ _) hs
      have t2 : bits .and .i64 ((s / 2 ^ (y) : Nat) : Int) 1 = ((s / 2 ^ (y) % 2 : Nat) : Int) := by
        have := i64_and (s / 2 ^ (y)) 1 (by omega) (by omega)
        rw [Nat.and_one_is_mod] at this
        exact this
      rw [bit_div] at t2
      have hp := pow_lt24 (k := k) (by omega)
      have s2 := i64_or (M k) (2 ^ (k)) (by omega) (by omega)
      have s3 : bits .or .i64 ((M k : Nat) : Int) 0 = ((M k : Nat) : Int) := by
        have := i64_or (M k) 0 (by omega) (by omega)
        rw [Nat.or_zero] at this
        exact this
      cases hb : s.testBit (y)
      · rw [hb] at t2 HRk
        have t3 : bits .and .i64 ((s / 2 ^ (y) : Nat) : Int) 1 = 0 := t2
        have HE : Hid (M k = M (k + 1)) := HRk.out.symm
        clear hb t2 HRk s2
        generalize s / 2 ^ (y) = r1 at *
        generalize M k = q at *
        go_wp2
        go_roundw
        case rel => exact ⟨k + 1, by omega, by rw [← HE.out], by go_num, by trivial⟩
        case measure => simp [intOf]; omega
      · rw [hb] at t2 HRk
        have t3 : bits .and .i64 ((s / 2 ^ (y) : Nat) : Int) 1 = 1 := t2
        have HE : Hid (M k ||| 2 ^ (k) = M (k + 1)) := HRk.out.symm
        clear hb t2 HRk s3
        generalize s / 2 ^ (y) = r1 at *
        generalize M k ||| 2 ^ (k) = r at *
        generalize 2 ^ (k) = pw at *
        generalize M k = q at *
        go_wp2
        go_roundw
        case rel => exact ⟨k + 1, by omega, by rw [← HE.out], by go_num, by trivial⟩
        case measure => simp [intOf]; omega
    · have HE : Hid (M k = R) := by show _ = _; rw [HV.out, show k = n by omega]
      go_wp2
      go_ret
      exact ⟨by rw [← HE.out]; rfl, rfl⟩
end Go.Proofs.Ytedopalmfakeaaa
