/- Contracts of functions and lemmas, used by the proofs of the given statements. No condition beyond those that each lemma names. -/
import Derived.Test.YtedopalmfakeaaaFrmW1
namespace Go.Proofs.Ytedopalmfakeaaa
open Go.RowKit
set_option linter.unusedSimpArgs false
set_option linter.unusedVariables false
set_option maxRecDepth 20000
/-! ## the reference's node -/
section
variable {w : World} {A : Option Addr} {c : Nat} {f : FrR} {i : Nat}
set_option maxHeartbeats 4000000 in
theorem rnode_0 {b off c1 nn : Nat} {A1 : Option Addr} {kk v top : Int} {l : List Int} (hb : b < w.heap.size) (x0 : w.cell? ⟨b, off + i * 3, none⟩ = some (.int .i64 0)) (x1 : w.cell? ⟨b, off + i * 3 + 1, none⟩ = some (.int .i64 kk)) (x2 : w.cell? ⟨b, off + i * 3 + 2, none⟩ = some (.slice A1 l.length c1)) (ra : Rds w w.heap.size 1 A1 l.length (zil l)) (hi : i < nn) (hv0 : 0 ≤ v) (hv1 : v ≤ 24) (hn : nn ≤ 128) :
    Calls Try.prog 124 #[fv v (some ⟨b, off, none⟩) nn c top, .int .i64 (i : Int)] w fun e w' => e = .returned (.int .i64 (ndC (v + i) 0 kk l)) ∧ Below w.heap.size w w' := by
  cases hA : argB 0 l.length
  · have HV : Hid (ndC (v + i) 0 kk l = 11) := ndC_11 ⟨by decide, by decide⟩ hA
    have hw : 0 < l.length ∨ 0 < l.length := by have h5 : l.length ≠ 0 := (by simpa [argB] using hA); omega
    clear hA
    rcases hw with hw | hw
    all_goals
      go_enter Try.func124, Try.ntmps124
      go_wp2
      go_ret
      exact ⟨by rw [HV.out]; rfl, (by (skip); repeat' (first | (with_reducible exact Below.refl _ _) | (with_reducible assumption) | (with_reducible refine Below.alloc ?_ ?_ _) | (with_reducible refine Below.drew ?_) | (with_reducible refine below_drewN ?_ _) | (with_reducible refine Below.setCell ?_ ?_ _) | (with_reducible refine Below.trans ?_ (Below.mono (by with_reducible assumption) ?_)) | omega | (simp only [World.size_alloc, World.size_setCell, World.size_drew, size_drewN']; omega) | go_size))⟩
  · have hll := argB_le hA
    have hlo : ¬ 0 < l.length := by have h5 : l.length = 0 := (by simpa [argB] using hA); omega
    have H10 : Hid (idxB (v + i) l = false → ndC (v + i) 0 kk l = 10) := fun h => ndC_10 ⟨by decide, by decide⟩ hA h
    have HK : Hid (idxB (v + i) l = true → ndC (v + i) 0 kk l = kkC 0 kk l.length) := fun h => ndC_k ⟨by decide, by decide⟩ hA h
    clear hA
    have hbW : Below w.heap.size w ((w.alloc (.cells #[.int .i64 v, .slice (some ⟨b, off, none⟩) nn c, .int .i64 top] 66)).alloc (.cells #[.int .i64 0, .int .i64 kk, .slice A1 l.length c1] 73)) := (by (skip); repeat' (first | (with_reducible exact Below.refl _ _) | (with_reducible assumption) | (with_reducible refine Below.alloc ?_ ?_ _) | (with_reducible refine Below.drew ?_) | (with_reducible refine below_drewN ?_ _) | (with_reducible refine Below.setCell ?_ ?_ _) | (with_reducible refine Below.trans ?_ (Below.mono (by with_reducible assumption) ?_)) | omega | (simp only [World.size_alloc, World.size_setCell, World.size_drew, size_drewN']; omega) | go_size))
    have q0 : ((w.alloc (.cells #[.int .i64 v, .slice (some ⟨b, off, none⟩) nn c, .int .i64 top] 66)).alloc (.cells #[.int .i64 0, .int .i64 kk, .slice A1 l.length c1] 73)).cell? ⟨w.heap.size, 0, none⟩ = some (.int .i64 v) := by simp [go_sem]
    have q1 : ((w.alloc (.cells #[.int .i64 v, .slice (some ⟨b, off, none⟩) nn c, .int .i64 top] 66)).alloc (.cells #[.int .i64 0, .int .i64 kk, .slice A1 l.length c1] 73)).cell? ⟨w.heap.size + 1, 0, none⟩ = some (.int .i64 0) := by simp [go_sem]
    have q2 : ((w.alloc (.cells #[.int .i64 v, .slice (some ⟨b, off, none⟩) nn c, .int .i64 top] 66)).alloc (.cells #[.int .i64 0, .int .i64 kk, .slice A1 l.length c1] 73)).cell? ⟨w.heap.size + 1, 1, none⟩ = some (.int .i64 kk) := by simp [go_sem]
    have q3 : ((w.alloc (.cells #[.int .i64 v, .slice (some ⟨b, off, none⟩) nn c, .int .i64 top] 66)).alloc (.cells #[.int .i64 0, .int .i64 kk, .slice A1 l.length c1] 73)).cell? ⟨w.heap.size + 1, 2, none⟩ = some (.slice A1 l.length c1) := by simp [go_sem]
    go_enter Try.func124, Try.ntmps124
    go_wp2
    obtain ⟨W1, hW1⟩ : ∃ W1, W1 = ((w.alloc (.cells #[.int .i64 v, .slice (some ⟨b, off, none⟩) nn c, .int .i64 top] 66)).alloc (.cells #[.int .i64 0, .int .i64 kk, .slice A1 l.length c1] 73)) := ⟨_, rfl⟩
    rw [← hW1] at hbW q0 q1 q2 q3 ⊢
    clear hW1
    go_loopw [41] (fun j wr => ∃ k : Nat, k ≤ l.length ∧ j = .int .i64 k ∧ (∀ q (hq : q < l.length), q < k → 0 ≤ l[q] ∧ l[q] < v + i) ∧ W1 = wr) (fun j _ => l.length - (intOf j).toNat)
    case atStart => exact ⟨0, Nat.zero_le _, rfl, fun q hq h0 => by omega, rfl⟩
    case round =>
      obtain ⟨k, hk, rfl, hr, rfl⟩ := hrel
      have HR := Lib.hid hr
      clear hr
      by_cases hkl : k < l.length
      · exact absurd hkl (by omega)
      · have HV : Hid (ndC (v + i) 0 kk l = kkC 0 kk l.length) := HK.out (idxB_t fun q hq => HR.out q hq (by omega))
        clear HR HK H10
        by_cases d0 : kk = 0
        · have HX : Hid (kkC 0 kk l.length = 0) := by show _ = _; simp [kkC, d0]
          subst d0
          go_wp2
          go_ret
          exact ⟨by rw [HV.out, HX.out]; rfl, hbW⟩
        · have e0 : (kk != 0) = true := by simpa using d0
          by_cases d1 : kk = 1
          · have HX : Hid (kkC 0 kk l.length = 0) := by show _ = _; simp [kkC, d1]
            subst d1
            clear d0 e0
            go_wp2
            go_ret
            exact ⟨by rw [HV.out, HX.out]; rfl, hbW⟩
          · have HX : Hid (kkC 0 kk l.length = 3) := by show _ = _; simp [kkC, d0, d1]
            have e1 : (kk != 1) = true := by simpa using d1
            go_wp2
            go_ret
            exact ⟨by rw [HV.out, HX.out]; rfl, hbW⟩
set_option maxHeartbeats 4000000 in
theorem rnode_1 {b off c1 nn : Nat} {A1 : Option Addr} {kk v top : Int} {l : List Int} (hb : b < w.heap.size) (x0 : w.cell? ⟨b, off + i * 3, none⟩ = some (.int .i64 1)) (x1 : w.cell? ⟨b, off + i * 3 + 1, none⟩ = some (.int .i64 kk)) (x2 : w.cell? ⟨b, off + i * 3 + 2, none⟩ = some (.slice A1 l.length c1)) (ra : Rds w w.heap.size 1 A1 l.length (zil l)) (hi : i < nn) (hv0 : 0 ≤ v) (hv1 : v ≤ 24) (hn : nn ≤ 128) :
    Calls Try.prog 124 #[fv v (some ⟨b, off, none⟩) nn c top, .int .i64 (i : Int)] w fun e w' => e = .returned (.int .i64 (ndC (v + i) 1 kk l)) ∧ Below w.heap.size w w' := by
  cases hA : argB 1 l.length
  · have HV : Hid (ndC (v + i) 1 kk l = 11) := ndC_11 ⟨by decide, by decide⟩ hA
    have hw : l.length < 1 ∨ 1 < l.length := by have h5 : l.length ≠ 1 := (by simpa [argB] using hA); omega
    clear hA
    rcases hw with hw | hw
    all_goals
      go_enter Try.func124, Try.ntmps124
      go_wp2
      go_ret
      exact ⟨by rw [HV.out]; rfl, (by (skip); repeat' (first | (with_reducible exact Below.refl _ _) | (with_reducible assumption) | (with_reducible refine Below.alloc ?_ ?_ _) | (with_reducible refine Below.drew ?_) | (with_reducible refine below_drewN ?_ _) | (with_reducible refine Below.setCell ?_ ?_ _) | (with_reducible refine Below.trans ?_ (Below.mono (by with_reducible assumption) ?_)) | omega | (simp only [World.size_alloc, World.size_setCell, World.size_drew, size_drewN']; omega) | go_size))⟩
  · have hll := argB_le hA
    have hlo : ¬ l.length < 1 ∧ ¬ 1 < l.length := by have h5 : l.length = 1 := (by simpa [argB] using hA); omega
    have H10 : Hid (idxB (v + i) l = false → ndC (v + i) 1 kk l = 10) := fun h => ndC_10 ⟨by decide, by decide⟩ hA h
    have HK : Hid (idxB (v + i) l = true → ndC (v + i) 1 kk l = kkC 1 kk l.length) := fun h => ndC_k ⟨by decide, by decide⟩ hA h
    clear hA
    have hbW : Below w.heap.size w ((w.alloc (.cells #[.int .i64 v, .slice (some ⟨b, off, none⟩) nn c, .int .i64 top] 66)).alloc (.cells #[.int .i64 1, .int .i64 kk, .slice A1 l.length c1] 73)) := (by (skip); repeat' (first | (with_reducible exact Below.refl _ _) | (with_reducible assumption) | (with_reducible refine Below.alloc ?_ ?_ _) | (with_reducible refine Below.drew ?_) | (with_reducible refine below_drewN ?_ _) | (with_reducible refine Below.setCell ?_ ?_ _) | (with_reducible refine Below.trans ?_ (Below.mono (by with_reducible assumption) ?_)) | omega | (simp only [World.size_alloc, World.size_setCell, World.size_drew, size_drewN']; omega) | go_size))
    have q0 : ((w.alloc (.cells #[.int .i64 v, .slice (some ⟨b, off, none⟩) nn c, .int .i64 top] 66)).alloc (.cells #[.int .i64 1, .int .i64 kk, .slice A1 l.length c1] 73)).cell? ⟨w.heap.size, 0, none⟩ = some (.int .i64 v) := by simp [go_sem]
    have q1 : ((w.alloc (.cells #[.int .i64 v, .slice (some ⟨b, off, none⟩) nn c, .int .i64 top] 66)).alloc (.cells #[.int .i64 1, .int .i64 kk, .slice A1 l.length c1] 73)).cell? ⟨w.heap.size + 1, 0, none⟩ = some (.int .i64 1) := by simp [go_sem]
    have q2 : ((w.alloc (.cells #[.int .i64 v, .slice (some ⟨b, off, none⟩) nn c, .int .i64 top] 66)).alloc (.cells #[.int .i64 1, .int .i64 kk, .slice A1 l.length c1] 73)).cell? ⟨w.heap.size + 1, 1, none⟩ = some (.int .i64 kk) := by simp [go_sem]
    have q3 : ((w.alloc (.cells #[.int .i64 v, .slice (some ⟨b, off, none⟩) nn c, .int .i64 top] 66)).alloc (.cells #[.int .i64 1, .int .i64 kk, .slice A1 l.length c1] 73)).cell? ⟨w.heap.size + 1, 2, none⟩ = some (.slice A1 l.length c1) := by simp [go_sem]
    go_enter Try.func124, Try.ntmps124
    go_wp2
    obtain ⟨W1, hW1⟩ : ∃ W1, W1 = ((w.alloc (.cells #[.int .i64 v, .slice (some ⟨b, off, none⟩) nn c, .int .i64 top] 66)).alloc (.cells #[.int .i64 1, .int .i64 kk, .slice A1 l.length c1] 73)) := ⟨_, rfl⟩
    rw [← hW1] at hbW q0 q1 q2 q3 ⊢
    clear hW1
    go_loopw [41] (fun j wr => ∃ k : Nat, k ≤ l.length ∧ j = .int .i64 k ∧ (∀ q (hq : q < l.length), q < k → 0 ≤ l[q] ∧ l[q] < v + i) ∧ W1 = wr) (fun j _ => l.length - (intOf j).toNat)
    case atStart => exact ⟨0, Nat.zero_le _, rfl, fun q hq h0 => by omega, rfl⟩
    case round =>
      obtain ⟨k, hk, rfl, hr, rfl⟩ := hrel
      have HR := Lib.hid hr
      clear hr
      by_cases hkl : k < l.length
      · obtain ⟨b1, off1, rfl, hb1, z⟩ := zil_at ra hbW hkl
        have HF : Hid (¬ (0 ≤ l[k] ∧ l[k] < v + i) → idxB (v + i) l = false) := fun h => idxB_f hkl h
        have HS : Hid ((0 ≤ l[k] ∧ l[k] < v + i) → ∀ q (hq : q < l.length), q < k + 1 → 0 ≤ l[q] ∧ l[q] < v + i) := fun h q hq h1 => by
          rcases Nat.lt_or_ge q k with h2 | h2
          · exact HR.out q hq h2
          · have : q = k := by omega
            subst this; exact h
        generalize l[k] = x at *
        by_cases g0 : x < 0
        · have HV : Hid (ndC (v + i) 1 kk l = 10) := H10.out (HF.out (by omega))
          clear HR HF HS
          go_wp2
          go_ret
          exact ⟨by rw [HV.out]; rfl, hbW⟩
        · by_cases g1 : x < v + i
          · have HX := Lib.hid (HS.out ⟨by omega, g1⟩)
            have g2 : ¬ v + (i : Int) ≤ x := by omega
            clear HR HF HS
            go_wp2
            go_roundw
            case rel => exact ⟨k + 1, by omega, by go_num, HX.out, by trivial⟩
            case measure => simp [intOf]; omega
          · have HV : Hid (ndC (v + i) 1 kk l = 10) := H10.out (HF.out (by omega))
            have g2 : v + (i : Int) ≤ x := by omega
            clear HR HF HS
            go_wp2
            go_ret
            exact ⟨by rw [HV.out]; rfl, hbW⟩
      · have HV : Hid (ndC (v + i) 1 kk l = kkC 1 kk l.length) := HK.out (idxB_t fun q hq => HR.out q hq (by omega))
        clear HR HK H10
        by_cases d0 : kk = 0
        · have HX : Hid (kkC 1 kk l.length = 0) := by show _ = _; unfold kkC; rw [if_neg (by decide), if_neg (by decide), if_pos d0]
          subst d0
          go_wp2
          go_ret
          exact ⟨by rw [HV.out, HX.out]; rfl, hbW⟩
        · have HX : Hid (kkC 1 kk l.length = 2) := by show _ = _; unfold kkC; rw [if_neg (by decide), if_neg (by decide), if_neg d0]
          have e5 : (kk != 0) = true := by simpa using d0
          go_wp2
          go_ret
          exact ⟨by rw [HV.out, HX.out]; rfl, hbW⟩
set_option maxHeartbeats 4000000 in
theorem rnode_2 {b off c1 nn : Nat} {A1 : Option Addr} {kk v top : Int} {l : List Int} (hb : b < w.heap.size) (x0 : w.cell? ⟨b, off + i * 3, none⟩ = some (.int .i64 2)) (x1 : w.cell? ⟨b, off + i * 3 + 1, none⟩ = some (.int .i64 kk)) (x2 : w.cell? ⟨b, off + i * 3 + 2, none⟩ = some (.slice A1 l.length c1)) (ra : Rds w w.heap.size 1 A1 l.length (zil l)) (hi : i < nn) (hv0 : 0 ≤ v) (hv1 : v ≤ 24) (hn : nn ≤ 128) :
    Calls Try.prog 124 #[fv v (some ⟨b, off, none⟩) nn c top, .int .i64 (i : Int)] w fun e w' => e = .returned (.int .i64 (ndC (v + i) 2 kk l)) ∧ Below w.heap.size w w' := by
  cases hA : argB 2 l.length
  · have HV : Hid (ndC (v + i) 2 kk l = 11) := ndC_11 ⟨by decide, by decide⟩ hA
    have hw : l.length < 1 ∨ 16 < l.length := by have h5 : ¬ (1 ≤ l.length ∧ l.length ≤ 16) := (by simpa [argB] using hA); omega
    clear hA
    rcases hw with hw | hw
    all_goals
      go_enter Try.func124, Try.ntmps124
      go_wp2
      go_ret
      exact ⟨by rw [HV.out]; rfl, (by (skip); repeat' (first | (with_reducible exact Below.refl _ _) | (with_reducible assumption) | (with_reducible refine Below.alloc ?_ ?_ _) | (with_reducible refine Below.drew ?_) | (with_reducible refine below_drewN ?_ _) | (with_reducible refine Below.setCell ?_ ?_ _) | (with_reducible refine Below.trans ?_ (Below.mono (by with_reducible assumption) ?_)) | omega | (simp only [World.size_alloc, World.size_setCell, World.size_drew, size_drewN']; omega) | go_size))⟩
  · have hll := argB_le hA
    have hlo : ¬ l.length < 1 ∧ ¬ 16 < l.length := by have h5 : 1 ≤ l.length ∧ l.length ≤ 16 := (by simpa [argB] using hA); omega
    have H10 : Hid (idxB (v + i) l = false → ndC (v + i) 2 kk l = 10) := fun h => ndC_10 ⟨by decide, by decide⟩ hA h
    have HK : Hid (idxB (v + i) l = true → ndC (v + i) 2 kk l = kkC 2 kk l.length) := fun h => ndC_k ⟨by decide, by decide⟩ hA h
    clear hA
    have hbW : Below w.heap.size w ((w.alloc (.cells #[.int .i64 v, .slice (some ⟨b, off, none⟩) nn c, .int .i64 top] 66)).alloc (.cells #[.int .i64 2, .int .i64 kk, .slice A1 l.length c1] 73)) := (by (skip); repeat' (first | (with_reducible exact Below.refl _ _) | (with_reducible assumption) | (with_reducible refine Below.alloc ?_ ?_ _) | (with_reducible refine Below.drew ?_) | (with_reducible refine below_drewN ?_ _) | (with_reducible refine Below.setCell ?_ ?_ _) | (with_reducible refine Below.trans ?_ (Below.mono (by with_reducible assumption) ?_)) | omega | (simp only [World.size_alloc, World.size_setCell, World.size_drew, size_drewN']; omega) | go_size))
    have q0 : ((w.alloc (.cells #[.int .i64 v, .slice (some ⟨b, off, none⟩) nn c, .int .i64 top] 66)).alloc (.cells #[.int .i64 2, .int .i64 kk, .slice A1 l.length c1] 73)).cell? ⟨w.heap.size, 0, none⟩ = some (.int .i64 v) := by simp [go_sem]
    have q1 : ((w.alloc (.cells #[.int .i64 v, .slice (some ⟨b, off, none⟩) nn c, .int .i64 top] 66)).alloc (.cells #[.int .i64 2, .int .i64 kk, .slice A1 l.length c1] 73)).cell? ⟨w.heap.size + 1, 0, none⟩ = some (.int .i64 2) := by simp [go_sem]
    have q2 : ((w.alloc (.cells #[.int .i64 v, .slice (some ⟨b, off, none⟩) nn c, .int .i64 top] 66)).alloc (.cells #[.int .i64 2, .int .i64 kk, .slice A1 l.length c1] 73)).cell? ⟨w.heap.size + 1, 1, none⟩ = some (.int .i64 kk) := by simp [go_sem]
    have q3 : ((w.alloc (.cells #[.int .i64 v, .slice (some ⟨b, off, none⟩) nn c, .int .i64 top] 66)).alloc (.cells #[.int .i64 2, .int .i64 kk, .slice A1 l.length c1] 73)).cell? ⟨w.heap.size + 1, 2, none⟩ = some (.slice A1 l.length c1) := by simp [go_sem]
    go_enter Try.func124, Try.ntmps124
    go_wp2
    obtain ⟨W1, hW1⟩ : ∃ W1, W1 = ((w.alloc (.cells #[.int .i64 v, .slice (some ⟨b, off, none⟩) nn c, .int .i64 top] 66)).alloc (.cells #[.int .i64 2, .int .i64 kk, .slice A1 l.length c1] 73)) := ⟨_, rfl⟩
    rw [← hW1] at hbW q0 q1 q2 q3 ⊢
    clear hW1
    go_loopw [41] (fun j wr => ∃ k : Nat, k ≤ l.length ∧ j = .int .i64 k ∧ (∀ q (hq : q < l.length), q < k → 0 ≤ l[q] ∧ l[q] < v + i) ∧ W1 = wr) (fun j _ => l.length - (intOf j).toNat)
    case atStart => exact ⟨0, Nat.zero_le _, rfl, fun q hq h0 => by omega, rfl⟩
    case round =>
      obtain ⟨k, hk, rfl, hr, rfl⟩ := hrel
      have HR := Lib.hid hr
      clear hr
      by_cases hkl : k < l.length
      · obtain ⟨b1, off1, rfl, hb1, z⟩ := zil_at ra hbW hkl
        have HF : Hid (¬ (0 ≤ l[k] ∧ l[k] < v + i) → idxB (v + i) l = false) := fun h => idxB_f hkl h
        have HS : Hid ((0 ≤ l[k] ∧ l[k] < v + i) → ∀ q (hq : q < l.length), q < k + 1 → 0 ≤ l[q] ∧ l[q] < v + i) := fun h q hq h1 => by
          rcases Nat.lt_or_ge q k with h2 | h2
          · exact HR.out q hq h2
          · have : q = k := by omega
            subst this; exact h
        generalize l[k] = x at *
        by_cases g0 : x < 0
        · have HV : Hid (ndC (v + i) 2 kk l = 10) := H10.out (HF.out (by omega))
          clear HR HF HS
          go_wp2
          go_ret
          exact ⟨by rw [HV.out]; rfl, hbW⟩
        · by_cases g1 : x < v + i
          · have HX := Lib.hid (HS.out ⟨by omega, g1⟩)
            have g2 : ¬ v + (i : Int) ≤ x := by omega
            clear HR HF HS
            go_wp2
            go_roundw
            case rel => exact ⟨k + 1, by omega, by go_num, HX.out, by trivial⟩
            case measure => simp [intOf]; omega
          · have HV : Hid (ndC (v + i) 2 kk l = 10) := H10.out (HF.out (by omega))
            have g2 : v + (i : Int) ≤ x := by omega
            clear HR HF HS
            go_wp2
            go_ret
            exact ⟨by rw [HV.out]; rfl, hbW⟩
      · have HV : Hid (ndC (v + i) 2 kk l = kkC 2 kk l.length) := HK.out (idxB_t fun q hq => HR.out q hq (by omega))
        clear HR HK H10
        by_cases d0 : kk = 0
        · have HX : Hid (kkC 2 kk l.length = 0) := by show _ = _; unfold kkC; rw [if_neg (by decide), if_neg (by decide), if_pos d0]
          subst d0
          go_wp2
          go_ret
          exact ⟨by rw [HV.out, HX.out]; rfl, hbW⟩
        · have HX : Hid (kkC 2 kk l.length = 2) := by show _ = _; unfold kkC; rw [if_neg (by decide), if_neg (by decide), if_neg d0]
          have e5 : (kk != 0) = true := by simpa using d0
          go_wp2
          go_ret
          exact ⟨by rw [HV.out, HX.out]; rfl, hbW⟩
set_option maxHeartbeats 4000000 in
theorem rnode_3 {b off c1 nn : Nat} {A1 : Option Addr} {kk v top : Int} {l : List Int} (hb : b < w.heap.size) (x0 : w.cell? ⟨b, off + i * 3, none⟩ = some (.int .i64 3)) (x1 : w.cell? ⟨b, off + i * 3 + 1, none⟩ = some (.int .i64 kk)) (x2 : w.cell? ⟨b, off + i * 3 + 2, none⟩ = some (.slice A1 l.length c1)) (ra : Rds w w.heap.size 1 A1 l.length (zil l)) (hi : i < nn) (hv0 : 0 ≤ v) (hv1 : v ≤ 24) (hn : nn ≤ 128) :
    Calls Try.prog 124 #[fv v (some ⟨b, off, none⟩) nn c top, .int .i64 (i : Int)] w fun e w' => e = .returned (.int .i64 (ndC (v + i) 3 kk l)) ∧ Below w.heap.size w w' := by
  cases hA : argB 3 l.length
  · have HV : Hid (ndC (v + i) 3 kk l = 11) := ndC_11 ⟨by decide, by decide⟩ hA
    have hw : l.length < 1 ∨ 16 < l.length := by have h5 : ¬ (1 ≤ l.length ∧ l.length ≤ 16) := (by simpa [argB] using hA); omega
    clear hA
    rcases hw with hw | hw
    all_goals
      go_enter Try.func124, Try.ntmps124
      go_wp2
      go_ret
      exact ⟨by rw [HV.out]; rfl, (by (skip); repeat' (first | (with_reducible exact Below.refl _ _) | (with_reducible assumption) | (with_reducible refine Below.alloc ?_ ?_ _) | (with_reducible refine Below.drew ?_) | (with_reducible refine below_drewN ?_ _) | (with_reducible refine Below.setCell ?_ ?_ _) | (with_reducible refine Below.trans ?_ (Below.mono (by with_reducible assumption) ?_)) | omega | (simp only [World.size_alloc, World.size_setCell, World.size_drew, size_drewN']; omega) | go_size))⟩
  · have hll := argB_le hA
    have hlo : ¬ l.length < 1 ∧ ¬ 16 < l.length := by have h5 : 1 ≤ l.length ∧ l.length ≤ 16 := (by simpa [argB] using hA); omega
    have H10 : Hid (idxB (v + i) l = false → ndC (v + i) 3 kk l = 10) := fun h => ndC_10 ⟨by decide, by decide⟩ hA h
    have HK : Hid (idxB (v + i) l = true → ndC (v + i) 3 kk l = kkC 3 kk l.length) := fun h => ndC_k ⟨by decide, by decide⟩ hA h
    clear hA
    have hbW : Below w.heap.size w ((w.alloc (.cells #[.int .i64 v, .slice (some ⟨b, off, none⟩) nn c, .int .i64 top] 66)).alloc (.cells #[.int .i64 3, .int .i64 kk, .slice A1 l.length c1] 73)) := (by (skip); repeat' (first | (with_reducible exact Below.refl _ _) | (with_reducible assumption) | (with_reducible refine Below.alloc ?_ ?_ _) | (with_reducible refine Below.drew ?_) | (with_reducible refine below_drewN ?_ _) | (with_reducible refine Below.setCell ?_ ?_ _) | (with_reducible refine Below.trans ?_ (Below.mono (by with_reducible assumption) ?_)) | omega | (simp only [World.size_alloc, World.size_setCell, World.size_drew, size_drewN']; omega) | go_size))
    have q0 : ((w.alloc (.cells #[.int .i64 v, .slice (some ⟨b, off, none⟩) nn c, .int .i64 top] 66)).alloc (.cells #[.int .i64 3, .int .i64 kk, .slice A1 l.length c1] 73)).cell? ⟨w.heap.size, 0, none⟩ = some (.int .i64 v) := by simp [go_sem]
    have q1 : ((w.alloc (.cells #[.int .i64 v, .slice (some ⟨b, off, none⟩) nn c, .int .i64 top] 66)).alloc (.cells #[.int .i64 3, .int .i64 kk, .slice A1 l.length c1] 73)).cell? ⟨w.heap.size + 1, 0, none⟩ = some (.int .i64 3) := by simp [go_sem]
    have q2 : ((w.alloc (.cells #[.int .i64 v, .slice (some ⟨b, off, none⟩) nn c, .int .i64 top] 66)).alloc (.cells #[.int .i64 3, .int .i64 kk, .slice A1 l.length c1] 73)).cell? ⟨w.heap.size + 1, 1, none⟩ = some (.int .i64 kk) := by simp [go_sem]
    have q3 : ((w.alloc (.cells #[.int .i64 v, .slice (some ⟨b, off, none⟩) nn c, .int .i64 top] 66)).alloc (.cells #[.int .i64 3, .int .i64 kk, .slice A1 l.length c1] 73)).cell? ⟨w.heap.size + 1, 2, none⟩ = some (.slice A1 l.length c1) := by simp [go_sem]
    go_enter Try.func124, Try.ntmps124
    go_wp2
    obtain ⟨W1, hW1⟩ : ∃ W1, W1 = ((w.alloc (.cells #[.int .i64 v, .slice (some ⟨b, off, none⟩) nn c, .int .i64 top] 66)).alloc (.cells #[.int .i64 3, .int .i64 kk, .slice A1 l.length c1] 73)) := ⟨_, rfl⟩
    rw [← hW1] at hbW q0 q1 q2 q3 ⊢
    clear hW1
    go_loopw [41] (fun j wr => ∃ k : Nat, k ≤ l.length ∧ j = .int .i64 k ∧ (∀ q (hq : q < l.length), q < k → 0 ≤ l[q] ∧ l[q] < v + i) ∧ W1 = wr) (fun j _ => l.length - (intOf j).toNat)
    case atStart => exact ⟨0, Nat.zero_le _, rfl, fun q hq h0 => by omega, rfl⟩
    case round =>
      obtain ⟨k, hk, rfl, hr, rfl⟩ := hrel
      have HR := Lib.hid hr
      clear hr
      by_cases hkl : k < l.length
      · obtain ⟨b1, off1, rfl, hb1, z⟩ := zil_at ra hbW hkl
        have HF : Hid (¬ (0 ≤ l[k] ∧ l[k] < v + i) → idxB (v + i) l = false) := fun h => idxB_f hkl h
        have HS : Hid ((0 ≤ l[k] ∧ l[k] < v + i) → ∀ q (hq : q < l.length), q < k + 1 → 0 ≤ l[q] ∧ l[q] < v + i) := fun h q hq h1 => by
          rcases Nat.lt_or_ge q k with h2 | h2
          · exact HR.out q hq h2
          · have : q = k := by omega
            subst this; exact h
        generalize l[k] = x at *
        by_cases g0 : x < 0
        · have HV : Hid (ndC (v + i) 3 kk l = 10) := H10.out (HF.out (by omega))
          clear HR HF HS
          go_wp2
          go_ret
          exact ⟨by rw [HV.out]; rfl, hbW⟩
        · by_cases g1 : x < v + i
          · have HX := Lib.hid (HS.out ⟨by omega, g1⟩)
            have g2 : ¬ v + (i : Int) ≤ x := by omega
            clear HR HF HS
            go_wp2
            go_roundw
            case rel => exact ⟨k + 1, by omega, by go_num, HX.out, by trivial⟩
            case measure => simp [intOf]; omega
          · have HV : Hid (ndC (v + i) 3 kk l = 10) := H10.out (HF.out (by omega))
            have g2 : v + (i : Int) ≤ x := by omega
            clear HR HF HS
            go_wp2
            go_ret
            exact ⟨by rw [HV.out]; rfl, hbW⟩
      · have HV : Hid (ndC (v + i) 3 kk l = kkC 3 kk l.length) := HK.out (idxB_t fun q hq => HR.out q hq (by omega))
        clear HR HK H10
        by_cases d0 : kk = 0
        · have HX : Hid (kkC 3 kk l.length = 0) := by show _ = _; unfold kkC; rw [if_neg (by decide), if_neg (by decide), if_pos d0]
          subst d0
          go_wp2
          go_ret
          exact ⟨by rw [HV.out, HX.out]; rfl, hbW⟩
        · have HX : Hid (kkC 3 kk l.length = 2) := by show _ = _; unfold kkC; rw [if_neg (by decide), if_neg (by decide), if_neg d0]
          have e5 : (kk != 0) = true := by simpa using d0
          go_wp2
          go_ret
          exact ⟨by rw [HV.out, HX.out]; rfl, hbW⟩
set_option maxHeartbeats 4000000 in
theorem rnode_4 {b off c1 nn : Nat} {A1 : Option Addr} {kk v top : Int} {l : List Int} (hb : b < w.heap.size) (x0 : w.cell? ⟨b, off + i * 3, none⟩ = some (.int .i64 4)) (x1 : w.cell? ⟨b, off + i * 3 + 1, none⟩ = some (.int .i64 kk)) (x2 : w.cell? ⟨b, off + i * 3 + 2, none⟩ = some (.slice A1 l.length c1)) (ra : Rds w w.heap.size 1 A1 l.length (zil l)) (hi : i < nn) (hv0 : 0 ≤ v) (hv1 : v ≤ 24) (hn : nn ≤ 128) :
    Calls Try.prog 124 #[fv v (some ⟨b, off, none⟩) nn c top, .int .i64 (i : Int)] w fun e w' => e = .returned (.int .i64 (ndC (v + i) 4 kk l)) ∧ Below w.heap.size w w' := by
  cases hA : argB 4 l.length
  · have HV : Hid (ndC (v + i) 4 kk l = 11) := ndC_11 ⟨by decide, by decide⟩ hA
    have hw : l.length < 1 ∨ 16 < l.length := by have h5 : ¬ (1 ≤ l.length ∧ l.length ≤ 16) := (by simpa [argB] using hA); omega
    clear hA
    rcases hw with hw | hw
    all_goals
      go_enter Try.func124, Try.ntmps124
      go_wp2
      go_ret
      exact ⟨by rw [HV.out]; rfl, (by (skip); repeat' (first | (with_reducible exact Below.refl _ _) | (with_reducible assumption) | (with_reducible refine Below.alloc ?_ ?_ _) | (with_reducible refine Below.drew ?_) | (with_reducible refine below_drewN ?_ _) | (with_reducible refine Below.setCell ?_ ?_ _) | (with_reducible refine Below.trans ?_ (Below.mono (by with_reducible assumption) ?_)) | omega | (simp only [World.size_alloc, World.size_setCell, World.size_drew, size_drewN']; omega) | go_size))⟩
  · have hll := argB_le hA
    have hlo : ¬ l.length < 1 ∧ ¬ 16 < l.length := by have h5 : 1 ≤ l.length ∧ l.length ≤ 16 := (by simpa [argB] using hA); omega
    have H10 : Hid (idxB (v + i) l = false → ndC (v + i) 4 kk l = 10) := fun h => ndC_10 ⟨by decide, by decide⟩ hA h
    have HK : Hid (idxB (v + i) l = true → ndC (v + i) 4 kk l = kkC 4 kk l.length) := fun h => ndC_k ⟨by decide, by decide⟩ hA h
    clear hA
    have hbW : Below w.heap.size w ((w.alloc (.cells #[.int .i64 v, .slice (some ⟨b, off, none⟩) nn c, .int .i64 top] 66)).alloc (.cells #[.int .i64 4, .int .i64 kk, .slice A1 l.length c1] 73)) := (by (skip); repeat' (first | (with_reducible exact Below.refl _ _) | (with_reducible assumption) | (with_reducible refine Below.alloc ?_ ?_ _) | (with_reducible refine Below.drew ?_) | (with_reducible refine below_drewN ?_ _) | (with_reducible refine Below.setCell ?_ ?_ _) | (with_reducible refine Below.trans ?_ (Below.mono (by with_reducible assumption) ?_)) | omega | (simp only [World.size_alloc, World.size_setCell, World.size_drew, size_drewN']; omega) | go_size))
    have q0 : ((w.alloc (.cells #[.int .i64 v, .slice (some ⟨b, off, none⟩) nn c, .int .i64 top] 66)).alloc (.cells #[.int .i64 4, .int .i64 kk, .slice A1 l.length c1] 73)).cell? ⟨w.heap.size, 0, none⟩ = some (.int .i64 v) := by simp [go_sem]
    have q1 : ((w.alloc (.cells #[.int .i64 v, .slice (some ⟨b, off, none⟩) nn c, .int .i64 top] 66)).alloc (.cells #[.int .i64 4, .int .i64 kk, .slice A1 l.length c1] 73)).cell? ⟨w.heap.size + 1, 0, none⟩ = some (.int .i64 4) := by simp [go_sem]
    have q2 : ((w.alloc (.cells #[.int .i64 v, .slice (some ⟨b, off, none⟩) nn c, .int .i64 top] 66)).alloc (.cells #[.int .i64 4, .int .i64 kk, .slice A1 l.length c1] 73)).cell? ⟨w.heap.size + 1, 1, none⟩ = some (.int .i64 kk) := by simp [go_sem]
    have q3 : ((w.alloc (.cells #[.int .i64 v, .slice (some ⟨b, off, none⟩) nn c, .int .i64 top] 66)).alloc (.cells #[.int .i64 4, .int .i64 kk, .slice A1 l.length c1] 73)).cell? ⟨w.heap.size + 1, 2, none⟩ = some (.slice A1 l.length c1) := by simp [go_sem]
    go_enter Try.func124, Try.ntmps124
    go_wp2
    obtain ⟨W1, hW1⟩ : ∃ W1, W1 = ((w.alloc (.cells #[.int .i64 v, .slice (some ⟨b, off, none⟩) nn c, .int .i64 top] 66)).alloc (.cells #[.int .i64 4, .int .i64 kk, .slice A1 l.length c1] 73)) := ⟨_, rfl⟩
    rw [← hW1] at hbW q0 q1 q2 q3 ⊢
    clear hW1
    go_loopw [41] (fun j wr => ∃ k : Nat, k ≤ l.length ∧ j = .int .i64 k ∧ (∀ q (hq : q < l.length), q < k → 0 ≤ l[q] ∧ l[q] < v + i) ∧ W1 = wr) (fun j _ => l.length - (intOf j).toNat)
    case atStart => exact ⟨0, Nat.zero_le _, rfl, fun q hq h0 => by omega, rfl⟩
    case round =>
      obtain ⟨k, hk, rfl, hr, rfl⟩ := hrel
      have HR := Lib.hid hr
      clear hr
      by_cases hkl : k < l.length
      · obtain ⟨b1, off1, rfl, hb1, z⟩ := zil_at ra hbW hkl
        have HF : Hid (¬ (0 ≤ l[k] ∧ l[k] < v + i) → idxB (v + i) l = false) := fun h => idxB_f hkl h
        have HS : Hid ((0 ≤ l[k] ∧ l[k] < v + i) → ∀ q (hq : q < l.length), q < k + 1 → 0 ≤ l[q] ∧ l[q] < v + i) := fun h q hq h1 => by
          rcases Nat.lt_or_ge q k with h2 | h2
          · exact HR.out q hq h2
          · have : q = k := by omega
            subst this; exact h
        generalize l[k] = x at *
        by_cases g0 : x < 0
        · have HV : Hid (ndC (v + i) 4 kk l = 10) := H10.out (HF.out (by omega))
          clear HR HF HS
          go_wp2
          go_ret
          exact ⟨by rw [HV.out]; rfl, hbW⟩
        · by_cases g1 : x < v + i
          · have HX := Lib.hid (HS.out ⟨by omega, g1⟩)
            have g2 : ¬ v + (i : Int) ≤ x := by omega
            clear HR HF HS
            go_wp2
            go_roundw
            case rel => exact ⟨k + 1, by omega, by go_num, HX.out, by trivial⟩
            case measure => simp [intOf]; omega
          · have HV : Hid (ndC (v + i) 4 kk l = 10) := H10.out (HF.out (by omega))
            have g2 : v + (i : Int) ≤ x := by omega
            clear HR HF HS
            go_wp2
            go_ret
            exact ⟨by rw [HV.out]; rfl, hbW⟩
      · have HV : Hid (ndC (v + i) 4 kk l = kkC 4 kk l.length) := HK.out (idxB_t fun q hq => HR.out q hq (by omega))
        clear HR HK H10
        by_cases d0 : kk < 1
        · have HX : Hid (kkC 4 kk l.length = 3) := by show _ = _; unfold kkC; rw [if_neg (by decide), if_pos rfl, if_neg (by omega)]
          go_wp2
          go_ret
          exact ⟨by rw [HV.out, HX.out]; rfl, hbW⟩
        · by_cases d1 : (l.length : Int) < kk
          · have HX : Hid (kkC 4 kk l.length = 3) := by show _ = _; unfold kkC; rw [if_neg (by decide), if_pos rfl, if_neg (by omega)]
            go_wp2
            go_ret
            exact ⟨by rw [HV.out, HX.out]; rfl, hbW⟩
          · have HX : Hid (kkC 4 kk l.length = 0) := by show _ = _; unfold kkC; rw [if_neg (by decide), if_pos rfl, if_pos (by omega)]
            go_wp2
            go_ret
            exact ⟨by rw [HV.out, HX.out]; rfl, hbW⟩
set_option maxHeartbeats 4000000 in
theorem rnode_5 {b off c1 nn : Nat} {A1 : Option Addr} {kk v top : Int} {l : List Int} (hb : b < w.heap.size) (x0 : w.cell? ⟨b, off + i * 3, none⟩ = some (.int .i64 5)) (x1 : w.cell? ⟨b, off + i * 3 + 1, none⟩ = some (.int .i64 kk)) (x2 : w.cell? ⟨b, off + i * 3 + 2, none⟩ = some (.slice A1 l.length c1)) (ra : Rds w w.heap.size 1 A1 l.length (zil l)) (hi : i < nn) (hv0 : 0 ≤ v) (hv1 : v ≤ 24) (hn : nn ≤ 128) :
    Calls Try.prog 124 #[fv v (some ⟨b, off, none⟩) nn c top, .int .i64 (i : Int)] w fun e w' => e = .returned (.int .i64 (ndC (v + i) 5 kk l)) ∧ Below w.heap.size w w' := by
  cases hA : argB 5 l.length
  · have HV : Hid (ndC (v + i) 5 kk l = 11) := ndC_11 ⟨by decide, by decide⟩ hA
    have hw : l.length < 1 ∨ 16 < l.length := by have h5 : ¬ (1 ≤ l.length ∧ l.length ≤ 16) := (by simpa [argB] using hA); omega
    clear hA
    rcases hw with hw | hw
    all_goals
      go_enter Try.func124, Try.ntmps124
      go_wp2
      go_ret
      exact ⟨by rw [HV.out]; rfl, (by (skip); repeat' (first | (with_reducible exact Below.refl _ _) | (with_reducible assumption) | (with_reducible refine Below.alloc ?_ ?_ _) | (with_reducible refine Below.drew ?_) | (with_reducible refine below_drewN ?_ _) | (with_reducible refine Below.setCell ?_ ?_ _) | (with_reducible refine Below.trans ?_ (Below.mono (by with_reducible assumption) ?_)) | omega | (simp only [World.size_alloc, World.size_setCell, World.size_drew, size_drewN']; omega) | go_size))⟩
  · have hll := argB_le hA
    have hlo : ¬ l.length < 1 ∧ ¬ 16 < l.length := by have h5 : 1 ≤ l.length ∧ l.length ≤ 16 := (by simpa [argB] using hA); omega
    have H10 : Hid (idxB (v + i) l = false → ndC (v + i) 5 kk l = 10) := fun h => ndC_10 ⟨by decide, by decide⟩ hA h
    have HK : Hid (idxB (v + i) l = true → ndC (v + i) 5 kk l = kkC 5 kk l.length) := fun h => ndC_k ⟨by decide, by decide⟩ hA h
    clear hA
    have hbW : Below w.heap.size w ((w.alloc (.cells #[.int .i64 v, .slice (some ⟨b, off, none⟩) nn c, .int .i64 top] 66)).alloc (.cells #[.int .i64 5, .int .i64 kk, .slice A1 l.length c1] 73)) := (by (skip); repeat' (first | (with_reducible exact Below.refl _ _) | (with_reducible assumption) | (with_reducible refine Below.alloc ?_ ?_ _) | (with_reducible refine Below.drew ?_) | (with_reducible refine below_drewN ?_ _) | (with_reducible refine Below.setCell ?_ ?_ _) | (with_reducible refine Below.trans ?_ (Below.mono (by with_reducible assumption) ?_)) | omega | (simp only [World.size_alloc, World.size_setCell, World.size_drew, size_drewN']; omega) | go_size))
    have q0 : ((w.alloc (.cells #[.int .i64 v, .slice (some ⟨b, off, none⟩) nn c, .int .i64 top] 66)).alloc (.cells #[.int .i64 5, .int .i64 kk, .slice A1 l.length c1] 73)).cell? ⟨w.heap.size, 0, none⟩ = some (.int .i64 v) := by simp [go_sem]
    have q1 : ((w.alloc (.cells #[.int .i64 v, .slice (some ⟨b, off, none⟩) nn c, .int .i64 top] 66)).alloc (.cells #[.int .i64 5, .int .i64 kk, .slice A1 l.length c1] 73)).cell? ⟨w.heap.size + 1, 0, none⟩ = some (.int .i64 5) := by simp [go_sem]
    have q2 : ((w.alloc (.cells #[.int .i64 v, .slice (some ⟨b, off, none⟩) nn c, .int .i64 top] 66)).alloc (.cells #[.int .i64 5, .int .i64 kk, .slice A1 l.length c1] 73)).cell? ⟨w.heap.size + 1, 1, none⟩ = some (.int .i64 kk) := by simp [go_sem]
    have q3 : ((w.alloc (.cells #[.int .i64 v, .slice (some ⟨b, off, none⟩) nn c, .int .i64 top] 66)).alloc (.cells #[.int .i64 5, .int .i64 kk, .slice A1 l.length c1] 73)).cell? ⟨w.heap.size + 1, 2, none⟩ = some (.slice A1 l.length c1) := by simp [go_sem]
    go_enter Try.func124, Try.ntmps124
    go_wp2
    obtain ⟨W1, hW1⟩ : ∃ W1, W1 = ((w.alloc (.cells #[.int .i64 v, .slice (some ⟨b, off, none⟩) nn c, .int .i64 top] 66)).alloc (.cells #[.int .i64 5, .int .i64 kk, .slice A1 l.length c1] 73)) := ⟨_, rfl⟩
    rw [← hW1] at hbW q0 q1 q2 q3 ⊢
    clear hW1
    go_loopw [41] (fun j wr => ∃ k : Nat, k ≤ l.length ∧ j = .int .i64 k ∧ (∀ q (hq : q < l.length), q < k → 0 ≤ l[q] ∧ l[q] < v + i) ∧ W1 = wr) (fun j _ => l.length - (intOf j).toNat)
    case atStart => exact ⟨0, Nat.zero_le _, rfl, fun q hq h0 => by omega, rfl⟩
    case round =>
      obtain ⟨k, hk, rfl, hr, rfl⟩ := hrel
      have HR := Lib.hid hr
      clear hr
      by_cases hkl : k < l.length
      · obtain ⟨b1, off1, rfl, hb1, z⟩ := zil_at ra hbW hkl
        have HF : Hid (¬ (0 ≤ l[k] ∧ l[k] < v + i) → idxB (v + i) l = false) := fun h => idxB_f hkl h
        have HS : Hid ((0 ≤ l[k] ∧ l[k] < v + i) → ∀ q (hq : q < l.length), q < k + 1 → 0 ≤ l[q] ∧ l[q] < v + i) := fun h q hq h1 => by
          rcases Nat.lt_or_ge q k with h2 | h2
          · exact HR.out q hq h2
          · have : q = k := by omega
            subst this; exact h
        generalize l[k] = x at *
        by_cases g0 : x < 0
        · have HV : Hid (ndC (v + i) 5 kk l = 10) := H10.out (HF.out (by omega))
          clear HR HF HS
          go_wp2
          go_ret
          exact ⟨by rw [HV.out]; rfl, hbW⟩
        · by_cases g1 : x < v + i
          · have HX := Lib.hid (HS.out ⟨by omega, g1⟩)
            have g2 : ¬ v + (i : Int) ≤ x := by omega
            clear HR HF HS
            go_wp2
            go_roundw
            case rel => exact ⟨k + 1, by omega, by go_num, HX.out, by trivial⟩
            case measure => simp [intOf]; omega
          · have HV : Hid (ndC (v + i) 5 kk l = 10) := H10.out (HF.out (by omega))
            have g2 : v + (i : Int) ≤ x := by omega
            clear HR HF HS
            go_wp2
            go_ret
            exact ⟨by rw [HV.out]; rfl, hbW⟩
      · have HV : Hid (ndC (v + i) 5 kk l = kkC 5 kk l.length) := HK.out (idxB_t fun q hq => HR.out q hq (by omega))
        clear HR HK H10
        by_cases d0 : kk = 0
        · have HX : Hid (kkC 5 kk l.length = 0) := by show _ = _; unfold kkC; rw [if_neg (by decide), if_neg (by decide), if_pos d0]
          subst d0
          go_wp2
          go_ret
          exact ⟨by rw [HV.out, HX.out]; rfl, hbW⟩
        · have HX : Hid (kkC 5 kk l.length = 2) := by show _ = _; unfold kkC; rw [if_neg (by decide), if_neg (by decide), if_neg d0]
          have e5 : (kk != 0) = true := by simpa using d0
          go_wp2
          go_ret
          exact ⟨by rw [HV.out, HX.out]; rfl, hbW⟩
theorem rnode_any (h : FrI w A f) (hi : i < f.nn) (hv0 : 0 ≤ f.vars) (hv1 : f.vars ≤ 24) (hn : f.nn ≤ 128) :
    Calls Try.prog 124 #[fv f.vars A f.nn c f.top, .int .i64 (i : Int)] w fun e w' => e = .returned (.int .i64 (ndC (f.vars + i) (f.kd i) (f.kk i) (f.ar i))) ∧ Below w.heap.size w w' := by
  obtain ⟨b, off, A1, c1, rfl, hb, x0, x1, x2, ra⟩ := h.at_ hi
  generalize f.kd i = kd at *
  generalize f.kk i = kk at *
  generalize f.ar i = l at *
  generalize f.vars = v at *
  generalize f.nn = nn at *
  generalize f.top = top at *
  clear h
  by_cases h7 : 0 ≤ kd ∧ kd ≤ 5
  · rcases (show kd = 0 ∨ kd = 1 ∨ kd = 2 ∨ kd = 3 ∨ kd = 4 ∨ kd = 5 by omega) with e | e | e | e | e | e
    all_goals subst e
    · exact rnode_0 hb x0 x1 x2 ra hi hv0 hv1 hn
    · exact rnode_1 hb x0 x1 x2 ra hi hv0 hv1 hn
    · exact rnode_2 hb x0 x1 x2 ra hi hv0 hv1 hn
    · exact rnode_3 hb x0 x1 x2 ra hi hv0 hv1 hn
    · exact rnode_4 hb x0 x1 x2 ra hi hv0 hv1 hn
    · exact rnode_5 hb x0 x1 x2 ra hi hv0 hv1 hn
  · have HV : Hid (ndC (v + i) kd kk l = 7) := ndC_7 h7
    have e0 : (kd == 0) = false := by simp; omega
    have e1 : (kd == 1) = false := by simp; omega
    have e2 : (kd == 2) = false := by simp; omega
    have e3 : (kd == 3) = false := by simp; omega
    have e4 : (kd == 4) = false := by simp; omega
    have e5 : (kd == 5) = false := by simp; omega
    clear h7
    go_enter Try.func124, Try.ntmps124
    go_wp2
    go_ret
    exact ⟨by rw [HV.out]; rfl, (by (skip); repeat' (first | (with_reducible exact Below.refl _ _) | (with_reducible assumption) | (with_reducible refine Below.alloc ?_ ?_ _) | (with_reducible refine Below.drew ?_) | (with_reducible refine below_drewN ?_ _) | (with_reducible refine Below.setCell ?_ ?_ _) | (with_reducible refine Below.trans ?_ (Below.mono (by with_reducible assumption) ?_)) | omega | (simp only [World.size_alloc, World.size_setCell, World.size_drew, size_drewN']; omega) | go_size))⟩
end
end Go.Proofs.Ytedopalmfakeaaa
