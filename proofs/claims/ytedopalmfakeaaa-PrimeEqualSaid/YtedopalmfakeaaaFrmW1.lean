/- Contracts of functions and lemmas, used by the proofs of the given statements. No condition beyond those that each lemma names. -/
import Derived.Test.YtedopalmfakeaaaJCubeCnt
import Derived.Test.YtedopalmfakeaaaCubeW1
import Derived.Test.YtedopalmfakeaaaCubeW2
namespace Go.Proofs.Ytedopalmfakeaaa
open Go.RowKit
set_option linter.unusedSimpArgs false
set_option linter.unusedVariables false
set_option maxRecDepth 20000
/-! ## package formula: arguments, Valid, checkNode -/
theorem args_any (kd : Int) (n : Nat) (w : World) : Calls Try.prog 138 #[.int .i64 kd, .int .i64 (n : Int)] w fun e w' => e = .returned (.bool (argB kd n)) ∧ w = w' := by
  by_cases h0 : kd = 0
  · subst h0
    have HV : Hid (argB 0 n = (n == 0)) := by show _ = _; simp [argB]
    go_enter Try.func138, Try.ntmps138
    go_wp2
    go_ret
    exact ⟨by rw [HV.out]; exact ret_bool (by rw [Bool.eq_iff_iff]; simp; try omega), rfl⟩
  · have e0 : (kd == 0) = false := by simpa using h0
    by_cases h1 : kd = 1
    · subst h1
      have HV : Hid (argB 1 n = (n == 1)) := by show _ = _; simp [argB]
      clear h0 e0
      go_enter Try.func138, Try.ntmps138
      go_wp2
      go_ret
      exact ⟨by rw [HV.out]; exact ret_bool (by rw [Bool.eq_iff_iff]; simp; try omega), rfl⟩
    · have e1 : (kd == 1) = false := by simpa using h1
      have HV : Hid (argB kd n = decide (1 ≤ n ∧ n ≤ 16)) := by show _ = _; simp [argB, h0, h1]
      by_cases h2 : 1 ≤ n
      · by_cases h3 : n ≤ 16
        · have HX : Hid (argB kd n = true) := by show _ = _; rw [HV.out]; simp [h2, h3]
          have a2 : (1 : Int) ≤ (n : Int) := by omega
          have a3 : (n : Int) ≤ 16 := by omega
          clear HV
          go_enter Try.func138, Try.ntmps138
          go_wp2
          go_ret
          exact ⟨by rw [HX.out]; rfl, rfl⟩
        · have HX : Hid (argB kd n = false) := by show _ = _; rw [HV.out]; simp [h3]
          have a2 : (1 : Int) ≤ (n : Int) := by omega
          have a3 : ¬ (n : Int) ≤ 16 := by omega
          clear HV
          go_enter Try.func138, Try.ntmps138
          go_wp2
          go_ret
          exact ⟨by rw [HX.out]; rfl, rfl⟩
      · have HX : Hid (argB kd n = false) := by show _ = _; rw [HV.out]; simp [h2]
        have a2 : ¬ (1 : Int) ≤ (n : Int) := by omega
        clear HV
        go_enter Try.func138, Try.ntmps138
        go_wp2
        go_ret
        exact ⟨by rw [HX.out]; rfl, rfl⟩
theorem ndC_7 {m kd kk : Int} {l : List Int} (h : ¬ (0 ≤ kd ∧ kd ≤ 5)) : ndC m kd kk l = 7 := by unfold ndC; rw [if_pos h]
theorem ndC_11 {m kd kk : Int} {l : List Int} (h : 0 ≤ kd ∧ kd ≤ 5) (h1 : argB kd l.length = false) : ndC m kd kk l = 11 := by unfold ndC; rw [if_neg (fun x => x h), if_pos h1]
theorem ndC_10 {m kd kk : Int} {l : List Int} (h : 0 ≤ kd ∧ kd ≤ 5) (h1 : argB kd l.length = true) (h2 : idxB m l = false) : ndC m kd kk l = 10 := by unfold ndC; rw [if_neg (fun x => x h), if_neg (by rw [h1]; decide), if_pos h2]
theorem ndC_k {m kd kk : Int} {l : List Int} (h : 0 ≤ kd ∧ kd ≤ 5) (h1 : argB kd l.length = true) (h2 : idxB m l = true) : ndC m kd kk l = kkC kd kk l.length := by unfold ndC; rw [if_neg (fun x => x h), if_neg (by rw [h1]; decide), if_neg (by rw [h2]; decide)]
theorem idxB_f {m : Int} {l : List Int} {k : Nat} (hk : k < l.length) (h : ¬ (0 ≤ l[k] ∧ l[k] < m)) : idxB m l = false := by
  unfold idxB
  rw [Bool.eq_false_iff]
  intro h1
  have := List.all_eq_true.1 h1 l[k] (List.getElem_mem _)
  exact h (by simpa using this)
theorem idxB_t {m : Int} {l : List Int} (h : ∀ q (hq : q < l.length), 0 ≤ l[q] ∧ l[q] < m) : idxB m l = true := by
  unfold idxB
  rw [List.all_eq_true]
  intro x hx
  obtain ⟨q, hq, rfl⟩ := List.mem_iff_getElem.1 hx
  simpa using h q hq
theorem argB_le {kd : Int} {n : Nat} (h : argB kd n = true) : n ≤ 16 := by
  unfold argB at h
  split at h
  · have : n = 0 := by simpa using h
    omega
  · split at h
    · have : n = 1 := by simpa using h
      omega
    · simp at h; omega
section
variable {w : World} {A : Option Addr} {c : Nat} {f : FrR} {i : Nat}
set_option maxHeartbeats 4000000 in
theorem node_any (h : FrI w A f) (hi : i < f.nn) (hv0 : 0 ≤ f.vars) (hv1 : f.vars ≤ 24) (hn : f.nn ≤ 128) :
    Calls Try.prog 127 #[fv f.vars A f.nn c f.top, .int .i64 (i : Int)] w fun e w' => e = .returned (err (ndC (f.vars + i) (f.kd i) (f.kk i) (f.ar i))) ∧ Below w.heap.size w w' := by
  obtain ⟨b, off, A1, c1, rfl, hb, x0, x1, x2, ra⟩ := h.at_ hi
  generalize f.kd i = kd at *
  generalize f.kk i = kk at *
  generalize f.ar i = l at *
  generalize f.vars = v at *
  generalize f.nn = nn at *
  generalize f.top = top at *
  clear h
  have KA := Lib.hid (args_any kd l.length)
  by_cases h7 : 0 ≤ kd ∧ kd ≤ 5
  · obtain ⟨k0, k5⟩ := h7
    have a0 : ¬ kd < 0 := by omega
    have a5 : ¬ 5 < kd := by omega
    cases hA : argB kd l.length
    · have HV : Hid (ndC (v + i) kd kk l = 11) := ndC_11 ⟨k0, k5⟩ hA
      rw [hA] at KA
      clear hA
      go_enter Try.func127, Try.ntmps127
      go_wp2_with (first | ((go_at_call 138; (with_reducible refine (KA.out _).mono ?_); rintro e _ ⟨rfl, rfl⟩)) | fail)
      go_ret
      exact ⟨by rw [HV.out]; rfl, (by (skip); repeat' (first | (with_reducible exact Below.refl _ _) | (with_reducible assumption) | (with_reducible refine Below.alloc ?_ ?_ _) | (with_reducible refine Below.drew ?_) | (with_reducible refine below_drewN ?_ _) | (with_reducible refine Below.setCell ?_ ?_ _) | (with_reducible refine Below.trans ?_ (Below.mono (by with_reducible assumption) ?_)) | omega | (simp only [World.size_alloc, World.size_setCell, World.size_drew, size_drewN']; omega) | go_size))⟩
    · have hll := argB_le hA
      have H10 : Hid (idxB (v + i) l = false → ndC (v + i) kd kk l = 10) := fun h => ndC_10 ⟨k0, k5⟩ hA h
      have HK : Hid (idxB (v + i) l = true → ndC (v + i) kd kk l = kkC kd kk l.length) := fun h => ndC_k ⟨k0, k5⟩ hA h
      rw [hA] at KA
      clear hA
      go_enter Try.func127, Try.ntmps127
      go_wp2_with (first | ((go_at_call 138; (with_reducible refine (KA.out _).mono ?_); rintro e _ ⟨rfl, rfl⟩)) | fail)
      have hbW : Below w.heap.size w ((w.alloc (.cells #[.int .i64 v, .slice (some ⟨b, off, none⟩) nn c, .int .i64 top] 66)).alloc (.cells #[.int .i64 kd, .int .i64 kk, .slice A1 l.length c1] 73)) := (by (skip); repeat' (first | (with_reducible exact Below.refl _ _) | (with_reducible assumption) | (with_reducible refine Below.alloc ?_ ?_ _) | (with_reducible refine Below.drew ?_) | (with_reducible refine below_drewN ?_ _) | (with_reducible refine Below.setCell ?_ ?_ _) | (with_reducible refine Below.trans ?_ (Below.mono (by with_reducible assumption) ?_)) | omega | (simp only [World.size_alloc, World.size_setCell, World.size_drew, size_drewN']; omega) | go_size))
      have q0 : ((w.alloc (.cells #[.int .i64 v, .slice (some ⟨b, off, none⟩) nn c, .int .i64 top] 66)).alloc (.cells #[.int .i64 kd, .int .i64 kk, .slice A1 l.length c1] 73)).cell? ⟨w.heap.size, 0, none⟩ = some (.int .i64 v) := by simp [go_sem]
      have q1 : ((w.alloc (.cells #[.int .i64 v, .slice (some ⟨b, off, none⟩) nn c, .int .i64 top] 66)).alloc (.cells #[.int .i64 kd, .int .i64 kk, .slice A1 l.length c1] 73)).cell? ⟨w.heap.size + 1, 0, none⟩ = some (.int .i64 kd) := by simp [go_sem]
      have q2 : ((w.alloc (.cells #[.int .i64 v, .slice (some ⟨b, off, none⟩) nn c, .int .i64 top] 66)).alloc (.cells #[.int .i64 kd, .int .i64 kk, .slice A1 l.length c1] 73)).cell? ⟨w.heap.size + 1, 1, none⟩ = some (.int .i64 kk) := by simp [go_sem]
      have q3 : ((w.alloc (.cells #[.int .i64 v, .slice (some ⟨b, off, none⟩) nn c, .int .i64 top] 66)).alloc (.cells #[.int .i64 kd, .int .i64 kk, .slice A1 l.length c1] 73)).cell? ⟨w.heap.size + 1, 2, none⟩ = some (.slice A1 l.length c1) := by simp [go_sem]
      obtain ⟨W1, hW1⟩ : ∃ W1, W1 = ((w.alloc (.cells #[.int .i64 v, .slice (some ⟨b, off, none⟩) nn c, .int .i64 top] 66)).alloc (.cells #[.int .i64 kd, .int .i64 kk, .slice A1 l.length c1] 73)) := ⟨_, rfl⟩
      rw [← hW1] at hbW q0 q1 q2 q3 ⊢
      clear hW1
      go_loopw [33] (fun j wr => ∃ k : Nat, k ≤ l.length ∧ j = .int .i64 k ∧ (∀ q (hq : q < l.length), q < k → 0 ≤ l[q] ∧ l[q] < v + i) ∧ W1 = wr) (fun j _ => l.length - (intOf j).toNat)
      case atStart => exact ⟨0, Nat.zero_le _, rfl, fun q hq h0 => by omega, rfl⟩
      case round =>
        obtain ⟨k, hk, rfl, hr, rfl⟩ := hrel
        have HR := Lib.hid hr
        clear hr
        by_cases hkl : k < l.length
        · obtain ⟨b1, off1, rfl, hb1, z⟩ := zil_at ra hbW hkl
          have HF : Hid (¬ (0 ≤ l[k] ∧ l[k] < v + i) → idxB (v + i) l = false) := fun h => idxB_f hkl h
          have HS : Hid ((0 ≤ l[k] ∧ l[k] < v + i) → ∀ q (hq : q < l.length), q < k + 1 → 0 ≤ l[q] ∧ l[q] < v + i) := fun h q hq h1 => by
            rcases Nat.lt_or_ge q k with h2 | h2
            · exact HR.out q hq h2
            · have : q = k := by omega
              subst this; exact h
          generalize l[k] = x at *
          by_cases g0 : x < 0
          · have HV : Hid (ndC (v + i) kd kk l = 10) := H10.out (HF.out (by omega))
            clear HR HF HS
            go_wp2
            go_ret
            exact ⟨by rw [HV.out]; rfl, hbW⟩
          · by_cases g1 : x < v + i
            · have HX := Lib.hid (HS.out ⟨by omega, g1⟩)
              have g2 : ¬ v + (i : Int) ≤ x := by omega
              clear HR HF HS
              go_wp2
              go_roundw
              case rel => exact ⟨k + 1, by omega, by go_num, HX.out, by trivial⟩
              case measure => simp [intOf]; omega
            · have HV : Hid (ndC (v + i) kd kk l = 10) := H10.out (HF.out (by omega))
              have g2 : v + (i : Int) ≤ x := by omega
              clear HR HF HS
              go_wp2
              go_ret
              exact ⟨by rw [HV.out]; rfl, hbW⟩
        · have HV : Hid (ndC (v + i) kd kk l = kkC kd kk l.length) := HK.out (idxB_t fun q hq => HR.out q hq (by omega))
          clear HR HK H10
          by_cases c0 : kd = 0
          · subst c0
            by_cases d0 : kk = 0
            · have HX : Hid (kkC 0 kk l.length = 0) := by show _ = _; simp [kkC, d0]
              subst d0
              go_wp2
              go_ret
              exact ⟨by rw [HV.out, HX.out]; rfl, hbW⟩
            · have e0 : (kk != 0) = true := by simpa using d0
              by_cases d1 : kk = 1
              · have HX : Hid (kkC 0 kk l.length = 0) := by show _ = _; simp [kkC, d1]
                subst d1
                clear d0 e0
                go_wp2
                go_ret
                exact ⟨by rw [HV.out, HX.out]; rfl, hbW⟩
              · have HX : Hid (kkC 0 kk l.length = 3) := by show _ = _; simp [kkC, d0, d1]
                have e1 : (kk != 1) = true := by simpa using d1
                go_wp2
                go_ret
                exact ⟨by rw [HV.out, HX.out]; rfl, hbW⟩
          · have e0 : (kd == 0) = false := by simpa using c0
            by_cases c4 : kd = 4
            · subst c4
              by_cases d0 : kk < 1
              · have HX : Hid (kkC 4 kk l.length = 3) := by show _ = _; unfold kkC; rw [if_neg (by decide), if_pos rfl, if_neg (by omega)]
                go_wp2
                go_ret
                exact ⟨by rw [HV.out, HX.out]; rfl, hbW⟩
              · by_cases d1 : (l.length : Int) < kk
                · have HX : Hid (kkC 4 kk l.length = 3) := by show _ = _; unfold kkC; rw [if_neg (by decide), if_pos rfl, if_neg (by omega)]
                  go_wp2
                  go_ret
                  exact ⟨by rw [HV.out, HX.out]; rfl, hbW⟩
                · have HX : Hid (kkC 4 kk l.length = 0) := by show _ = _; unfold kkC; rw [if_neg (by decide), if_pos rfl, if_pos (by omega)]
                  go_wp2
                  go_ret
                  exact ⟨by rw [HV.out, HX.out]; rfl, hbW⟩
            · have e4 : (kd == 4) = false := by simpa using c4
              by_cases d0 : kk = 0
              · have HX : Hid (kkC kd kk l.length = 0) := by show _ = _; unfold kkC; rw [if_neg c0, if_neg c4, if_pos d0]
                subst d0
                go_wp2
                go_ret
                exact ⟨by rw [HV.out, HX.out]; rfl, hbW⟩
              · have HX : Hid (kkC kd kk l.length = 2) := by show _ = _; unfold kkC; rw [if_neg c0, if_neg c4, if_neg d0]
                have e5 : (kk != 0) = true := by simpa using d0
                go_wp2
                go_ret
                exact ⟨by rw [HV.out, HX.out]; rfl, hbW⟩
  · have HV : Hid (ndC (v + i) kd kk l = 7) := ndC_7 h7
    by_cases h0 : kd < 0
    · clear h7
      go_enter Try.func127, Try.ntmps127
      go_wp2
      go_ret
      exact ⟨by rw [HV.out]; rfl, (by (skip); repeat' (first | (with_reducible exact Below.refl _ _) | (with_reducible assumption) | (with_reducible refine Below.alloc ?_ ?_ _) | (with_reducible refine Below.drew ?_) | (with_reducible refine below_drewN ?_ _) | (with_reducible refine Below.setCell ?_ ?_ _) | (with_reducible refine Below.trans ?_ (Below.mono (by with_reducible assumption) ?_)) | omega | (simp only [World.size_alloc, World.size_setCell, World.size_drew, size_drewN']; omega) | go_size))⟩
    · have h5 : 5 < kd := by omega
      clear h7
      go_enter Try.func127, Try.ntmps127
      go_wp2
      go_ret
      exact ⟨by rw [HV.out]; rfl, (by (skip); repeat' (first | (with_reducible exact Below.refl _ _) | (with_reducible assumption) | (with_reducible refine Below.alloc ?_ ?_ _) | (with_reducible refine Below.drew ?_) | (with_reducible refine below_drewN ?_ _) | (with_reducible refine Below.setCell ?_ ?_ _) | (with_reducible refine Below.trans ?_ (Below.mono (by with_reducible assumption) ?_)) | omega | (simp only [World.size_alloc, World.size_setCell, World.size_drew, size_drewN']; omega) | go_size))⟩
end
end Go.Proofs.Ytedopalmfakeaaa
