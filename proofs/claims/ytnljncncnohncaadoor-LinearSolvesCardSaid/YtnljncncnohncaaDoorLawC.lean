/- Contracts of functions and lemmas, used by the proofs of the given statements. No condition beyond those that each lemma names. -/
import Derived.Test.YtnljncncnohncaaDoorJLawL
namespace Go.Proofs.YtnljncncnohncaaDoor
open Go.RowKit
set_option linter.unusedSimpArgs false
set_option linter.unusedVariables false
set_option maxRecDepth 20000
attribute [local irreducible] nv wp win plainB validR valR canR
/-! ## LinearChecks -/
theorem large1 {w W : World} {g n cm : Nat} {A : Option Addr} {ca : Nat} {len : Nat → Nat} {R : Nat → Nat → Rw} (h : MatI w w.heap.size A n len R) (hb : Below w.heap.size w W) (hc : W.cell? ⟨g, 0, none⟩ = some (.slice A n ca)) :
    Calls Tryd.prog 12 #[.slice (some ⟨g, 0, none⟩) 1 cm] W fun e w' => (∃ b : Bool, e = .returned (.bool b) ∧ (b = false → SmallM n len R)) ∧ Below W.heap.size W w' :=
  (large_any (b0 := w.heap.size) (n := fun _ => n) (len := fun _ => len) (R := fun _ => R) (fun t ht => by
    obtain rfl : t = 0 := by omega
    exact ⟨A, ca, hc, h.kp (Kp.of_below hb)⟩) (by omega)).mono fun e w' ⟨⟨b, e1, e2⟩, hb'⟩ => ⟨⟨b, e1, fun h => e2 h 0 (by omega)⟩, hb'⟩
theorem okN_le {n : Nat} (h : okN n) : n ≤ 1000 := by unfold okN at h; omega
theorem seven (x : Value) (k : Nat) (hk : k < 7) : (#[x, x, x, x, x, x, x] : Array Value)[k]? = some x := by
  rcases (by omega : k = 0 ∨ k = 1 ∨ k = 2 ∨ k = 3 ∨ k = 4 ∨ k = 5 ∨ k = 6) with h | h | h | h | h | h | h <;> subst h <;> rfl
set_option maxHeartbeats 8000000 in
theorem linearChecks_law {w : World} {n ca nb cb : Nat} {A B : Option Addr} {len : Nat → Nat} {R : Nat → Nat → Rw} {Rb : Nat → Rw} (h : MatI w w.heap.size A n len R) (hB : RowI w w.heap.size B nb Rb) (hcb : nb ≤ cb) :
    Calls Tryd.prog 10 #[.slice A n ca, .slice B nb cb] w fun e w' => e = .returned (.bool true) ∧ Below w.heap.size w w' := by
  have HM := Lib.hid h
  have KL := Lib.hid (fun (W : World) (g : Nat) (hb : Below w.heap.size w W) (hc : W.cell? ⟨g, 0, none⟩ = some (.slice A n ca)) => large1 (cm := 1) h hb hc)
  have KV := Lib.hid (fun (W : World) (hb : Below w.heap.size w W) => vector_any (hB.kp (Kp.of_below hb)) hb.size hcb)
  clear h hB
  go_enter Tryd.func10, Tryd.ntmps10
  go_wp2_with (first | (go_at_call 11; (with_reducible refine (awake_any _).mono ?_); rintro e w1 ⟨rfl, hb1⟩; have hb1z := Below.size hb1; (try simp only [World.size_alloc, World.size_setCell, World.size_drew] at hb1z)) | fail)
  have hw1 : Below w.heap.size w (w1.alloc (.cells #[.slice A n ca] 22)) := hb1.alloc hb1.size _
  ((go_at_call 12; (with_reducible refine (KL.out _ _ hw1 (cell_new' rfl rfl)).mono ?_); rintro e w2 ⟨⟨bb, rfl, hbb⟩, hb2⟩; have hb2z := Below.size hb2; (try simp only [World.size_alloc, World.size_setCell, World.size_drew] at hb2z)))
  have hb12 : Below w.heap.size w w2 := hw1.trans (hb2.mono (by simp; omega))
  clear hw1 KL
  cases bb with
  | true =>
    clear hbb
    go_wp2_with (first | (go_at_call 11; (with_reducible refine (awake_any _).mono ?_); rintro e w3 ⟨rfl, hb3⟩; have hb3z := Below.size hb3; (try simp only [World.size_alloc, World.size_setCell, World.size_drew] at hb3z)) | fail)
    have hb13 := hb12.trans (hb3.mono hb12.size)
    go_ret
    exact ⟨rfl, hb13⟩
  | false =>
    have hsm := hbb rfl
    have hn := okN_le hsm.1
    have hl := fun i hi => okN_le (hsm.2 i hi).1
    clear hbb hsm
    go_wp2_with fail
    ((go_at_call 13; (with_reducible refine (KV.out _ hb12).mono ?_); rintro e w3 ⟨⟨bv, rfl, hbv⟩, hb3⟩; have hb3z := Below.size hb3; (try simp only [World.size_alloc, World.size_setCell, World.size_drew] at hb3z)))
    have hb13 := hb12.trans (hb3.mono hb12.size)
    clear KV
    cases bv with
    | false =>
      clear hbv hl
      go_wp2_with (first | (go_at_call 11; (with_reducible refine (awake_any _).mono ?_); rintro e w4 ⟨rfl, hb4⟩; have hb4z := Below.size hb4; (try simp only [World.size_alloc, World.size_setCell, World.size_drew] at hb4z)) | fail)
      have hb14 := hb13.trans (hb4.mono hb13.size)
      go_ret
      exact ⟨rfl, hb14⟩
    | true =>
      clear hbv
      obtain ⟨c, hc⟩ : ∃ c, c = codeM n len := ⟨_, rfl⟩
      have KR := Lib.hid (fun (W : World) (hb : Below w.heap.size w W) => rcheck_any (ca := ca) (HM.out.kp (Kp.of_below hb)) (by omega) (fun i hi => by have := hl i hi; omega))
      have KC := Lib.hid (fun (W : World) (hb : Below w.heap.size w W) => check_any (ca := ca) (HM.out.kp (Kp.of_below hb)) (by omega) (fun i hi => by have := hl i hi; omega))
      rw [← hc] at KR KC
      clear hl hc HM
      by_cases h0 : c = 0
      · subst h0
        rw [errM_0] at KC
        go_wp2_with (first | (go_at_call 19; (with_reducible refine (KR.out _ hb13).mono ?_); rintro e _ ⟨rfl, rfl⟩) | (go_at_call 24; (with_reducible refine (KC.out _ hb13).mono ?_); rintro e _ ⟨rfl, rfl⟩) | (go_at_call 16; (with_reducible refine (num_0 _).mono ?_); rintro e _ ⟨rfl, rfl⟩) | fail)
        go_ret
        exact ⟨rfl, hb13⟩
      · have h1 : (c == 0) = false := by simp [h0]
        rw [errM_n h0] at KC
        go_wp2_with (first | (go_at_call 19; (with_reducible refine (KR.out _ hb13).mono ?_); rintro e _ ⟨rfl, rfl⟩) | (go_at_call 24; (with_reducible refine (KC.out _ hb13).mono ?_); rintro e _ ⟨rfl, rfl⟩) | (go_at_call 16; (with_reducible refine (num_n _ _).mono ?_); rintro e _ ⟨rfl, rfl⟩) | (go_at_call 34; (with_reducible refine (apply_err (Lib.hid (KC.out _ hb13)) _).mono ?_); rintro e _ ⟨rfl, rfl⟩) | (go_at_call 29; (with_reducible refine (mul_err (Lib.hid (KC.out _ hb13)) _).mono ?_); rintro e _ ⟨rfl, rfl⟩) | (go_at_call 25; (with_reducible refine (reduce_err (Lib.hid (KC.out _ hb13))).mono ?_); rintro e _ ⟨rfl, rfl⟩) | (go_at_call 30; (with_reducible refine (rank_err (Lib.hid (KC.out _ hb13))).mono ?_); rintro e _ ⟨rfl, rfl⟩) | (go_at_call 31; (with_reducible refine (kernel_err (Lib.hid (KC.out _ hb13))).mono ?_); rintro e _ ⟨rfl, rfl⟩) | (go_at_call 14; (with_reducible refine (solve_err (Lib.hid (KC.out _ hb13)) _).mono ?_); rintro e _ ⟨rfl, rfl⟩) | (go_at_call 18; (with_reducible refine (det_err (Lib.hid fun W hb => KC.out W (hb13.trans (hb.mono hb13.size)))).mono ?_); rintro e w4 ⟨rfl, hb4⟩; have hb4z := Below.size hb4; (try simp only [World.size_alloc, World.size_setCell, World.size_drew] at hb4z)) | fail)
        have hck := fun (k : Nat) (hk : k < 7) => cell_new' (w := w4.alloc (.cells #[.bool false, .slice none 0 0, .slice none 0 0] 37)) (cs := #[.iface 42 (.int .i64 c), .iface 42 (.int .i64 c), .iface 42 (.int .i64 c), .iface 42 (.int .i64 c), .iface 42 (.int .i64 c), .iface 42 (.int .i64 c), .iface 42 (.int .i64 c)]) (t := 28) (i := k) (g := w4.heap.size + 1) (by simp) (seven _ k hk)
        have HK := Lib.hid hck
        clear hck
        go_loop [93] (fun i => ∃ k : Nat, k ≤ 7 ∧ i = .int .i64 (k : Int)) (fun i => 7 - (intOf i).toNat)
        case atStart => exact ⟨0, by omega, rfl⟩
        case round =>
          obtain ⟨k, hk, rfl⟩ := hrel
          by_cases hlt : k < 7
          · have hc0 := HK.out k hlt
            have hi : (k : Int) < 7 := by omega
            go_wp2_with (first | (go_at_call 16; (with_reducible refine (num_n _ _).mono ?_); rintro e _ ⟨rfl, rfl⟩) | fail)
            exact ⟨⟨k + 1, by omega, by go_num⟩, by simp [intOf]; omega⟩
          · have : k = 7 := by omega
            subst this
            clear HK
            have KS := Lib.hid (fun W => signQ (w := W) (L := 1) ((OwQ.zero W 0).rq (Sz.zero (by omega))) (by omega) (by omega))
            go_wp2_with (first | (go_at_call 21; (with_reducible refine (KS.out _).mono ?_); rintro e w5 ⟨rfl, hb5⟩; have hb5z := Below.size hb5; (try simp only [World.size_alloc, World.size_setCell, World.size_drew] at hb5z)) | fail)
            have hb14 := hb13.trans (hb4.mono hb13.size)
            have hb15 : Below w.heap.size w w5 := ((hb14.alloc hb14.size _).alloc (by simp; have := hb14.size; omega) _).trans (hb5.mono (by simp; omega))
            go_ret
            exact ⟨by rw [show sgnQ 0 = 0 from rfl]; rfl, hb15⟩
end Go.Proofs.YtnljncncnohncaaDoor
