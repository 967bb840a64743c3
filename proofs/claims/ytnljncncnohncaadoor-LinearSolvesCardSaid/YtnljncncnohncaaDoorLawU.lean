/- Contracts of functions and lemmas, used by the proofs of the given statements. No condition beyond those that each lemma names. -/
import Derived.Test.YtnljncncnohncaaDoorRlG
import Derived.Test.YtnljncncnohncaaDoorLawT
import Derived.Test.YtnljncncnohncaaDoorLawS
import Derived.Test.YtnljncncnohncaaDoorLawD
namespace Go.Proofs.YtnljncncnohncaaDoor
open Go.RowKit
set_option linter.unusedSimpArgs false
set_option linter.unusedVariables false
set_option maxRecDepth 20000
attribute [local irreducible] nv wp win plainB validR valR canR gj findR elim swp gl rdF detF codeS
/-! ## LinearSolves -/
/-- a vector and a number, for reading -/
def RetAi (n : Nat) (k : Int) (f : Nat → Rat) (z : Value) (e : Ending) (w' : World) : Prop := ∃ A d, e = .returned (.tuple #[.slice A (outN k n) d, z]) ∧ RowI w' w'.heap.size A (outN k n) (can f) ∧ outN k n ≤ d
theorem RowI.nil_ (w : World) (b0 : Nat) (R : Nat → Rw) : RowI w b0 none 0 R := ⟨fun _ => .nilIface, fun _ h => by omega, Rds.nil_ w _ 3 none, fun h => by omega⟩
theorem RetAi.err {n : Nat} {k : Int} {f : Nat → Rat} {z : Value} {e : Ending} {w' : World} (h : k ≠ 0) (he : e = .returned (.tuple #[.slice none 0 0, z])) : RetAi n k f z e w' := ⟨none, 0, by rw [outN_n h]; exact he, by rw [outN_n h]; exact RowI.nil_ _ _ _, by rw [outN_n h]; omega⟩
theorem RetAe.ai {b n : Nat} {k : Int} {f : Nat → Rat} {z : Value} {e : Ending} {w' : World} (h : RetAe b n k f z e w') (hb : b ≤ w'.heap.size) : RetAi n k f z e w' := by
  obtain ⟨A, d, h1, h2⟩ := h
  exact ⟨A, d, h1, h2.ri hb, h2.cap⟩
section
variable {w : World} {n m ca cb : Nat} {A B : Option Addr} {len : Nat → Nat} {R : Nat → Nat → Rw} {Rb : Nat → Rw}
theorem solve_shape (h : MatI w w.heap.size A n len R) (hcode : codeM n len = 0) (hm : m ≠ n) (B : Option Addr) (cb : Nat) :
    Calls Tryd.prog 14 #[.slice A n ca, .slice B m cb] w fun e w' => e = .returned (.tuple #[.slice none 0 0, .iface 42 (.int .i64 11)]) ∧ w = w' := by
  obtain ⟨hn0, hl0, hn, hl, hall⟩ := codeM_zero hcode
  have K0 := Lib.hid (check_any (ca := ca) h (by omega) (fun i hi => by rw [hall i hi]; omega))
  rw [hcode, errM_0] at K0
  have e1 : ((m : Int) == (n : Int)) = false := beq_eq_false_iff_ne.2 (by omega)
  have e2 : ((m : Int) != (n : Int)) = true := by rw [bne_iff_ne]; omega
  clear h hcode hm hall
  go_enter Tryd.func14, Tryd.ntmps14
  go_wp2_with (first | (go_at_call 24; (with_reducible refine (K0.out).mono ?_); rintro e _ ⟨rfl, rfl⟩) | fail)
  go_ret2
  exact ⟨rfl, rfl⟩
theorem rsolve_err {k : Int} (K : Hid (Calls Tryd.prog 19 #[.slice A n ca] w fun e w' => e = .returned (.int .i64 k) ∧ w = w')) (h0 : k ≠ 0) (B : Value) :
    Calls Tryd.prog 15 #[.slice A n ca, B] w fun e w' => e = .returned (.tuple #[.slice none 0 0, .int .i64 k]) ∧ w = w' := by
  have e1 : (k == 0) = false := by simp [h0]
  have e2 : (k != 0) = true := by simp [h0]
  clear h0
  go_enter Tryd.func15, Tryd.ntmps15
  go_wp2_with (first | (go_at_call 19; (with_reducible refine (K.out).mono ?_); rintro e _ ⟨rfl, rfl⟩) | fail)
  go_ret2
  exact ⟨rfl, rfl⟩
theorem rsolve_shape (h : MatI w w.heap.size A n len R) (hcode : codeM n len = 0) (hm : m ≠ n) (B : Option Addr) (cb : Nat) :
    Calls Tryd.prog 15 #[.slice A n ca, .slice B m cb] w fun e w' => e = .returned (.tuple #[.slice none 0 0, .int .i64 11]) ∧ w = w' := by
  obtain ⟨hn0, hl0, hn, hl, hall⟩ := codeM_zero hcode
  have K0 := Lib.hid (rcheck_any (ca := ca) h (by omega) (fun i hi => by rw [hall i hi]; omega))
  rw [hcode] at K0
  have e1 : ((m : Int) == (n : Int)) = false := beq_eq_false_iff_ne.2 (by omega)
  have e2 : ((m : Int) != (n : Int)) = true := by rw [bne_iff_ne]; omega
  clear h hcode hm hall
  go_enter Tryd.func15, Tryd.ntmps15
  go_wp2_with (first | (go_at_call 19; (with_reducible refine (K0.out).mono ?_); rintro e _ ⟨rfl, rfl⟩) | fail)
  go_ret2
  exact ⟨rfl, rfl⟩
def codeSo (n m : Nat) (len : Nat → Nat) (W : Mf) : Int := if codeM n len = 0 then (if m = n then codeS n (len 0) W else 11) else codeM n len
theorem solve_all (h : MatI w w.heap.size A n len R) (hB : RowI w w.heap.size B m Rb) (hs : SmallM n len R) (hv : SmallR m Rb) :
    Calls Tryd.prog 14 #[.slice A n ca, .slice B m cb] w fun e w' => RetAi (len 0) (codeSo n m len (wide (fun i k => valR (R i k)) (fun i => valR (Rb i)) (len 0))) (fun i => (gj n (wide (fun i k => valR (R i k)) (fun i => valR (Rb i)) (len 0)) (len 0 + 1)).1 i (len 0)) (errM (codeSo n m len (wide (fun i k => valR (R i k)) (fun i => valR (Rb i)) (len 0)))) e w' ∧ Below w.heap.size w w' := by
  unfold codeSo
  by_cases hc : codeM n len = 0
  · rw [if_pos hc]
    by_cases hm : m = n
    · subst hm
      rw [if_pos rfl]
      refine (hs.solP hv hc h hB).mono ?_
      rintro e w1 ⟨⟨X, Z, rfl, hx⟩, hb⟩
      rcases hx with ⟨h0, A', d, rfl, rfl, ow⟩ | ⟨h0, rfl, rfl⟩
      · rw [h0, errM_0]
        exact ⟨⟨A', d, by rw [outN_0], by rw [outN_0]; exact ow.ri hb.size, by rw [outN_0]; exact ow.cap⟩, hb⟩
      · exact ⟨.err h0 rfl, hb⟩
    · rw [if_neg hm, errM_n (by omega)]
      refine (solve_shape h hc hm B cb).mono ?_
      rintro e w1 ⟨he, rfl⟩
      exact ⟨.err (by omega) he, Below.refl _ _⟩
  · rw [if_neg hc, errM_n hc]
    refine (solve_err (Lib.hid (check_err h (by have := hs.le.1; omega) (fun i hi => by have := hs.le.2 i hi; omega) rfl hc)) _).mono ?_
    rintro e w1 ⟨he, rfl⟩
    exact ⟨.err hc he, Below.refl _ _⟩
theorem rsolve_all (h : MatI w w.heap.size A n len R) (hB : RowI w w.heap.size B m Rb) (hs : SmallM n len R) (hv : SmallR m Rb) :
    Calls Tryd.prog 15 #[.slice A n ca, .slice B m cb] w fun e w' => RetAi (len 0) (codeSo n m len (wide (fun i k => valR (R i k)) (fun i => valR (Rb i)) (len 0))) (fun i => (gj n (wide (fun i k => valR (R i k)) (fun i => valR (Rb i)) (len 0)) (len 0 + 1)).1 i (len 0)) (.int .i64 (codeSo n m len (wide (fun i k => valR (R i k)) (fun i => valR (Rb i)) (len 0)))) e w' ∧ Below w.heap.size w w' := by
  unfold codeSo
  by_cases hc : codeM n len = 0
  · rw [if_pos hc]
    by_cases hm : m = n
    · subst hm
      rw [if_pos rfl]
      obtain ⟨h1, h2, h3, h4, h5, h6⟩ := hs.acc hc
      refine (rsolve_any (L := 3) h hB hc rfl h6 hv.2 (by omega) (by have := gl37 (show len 0 + 1 ≤ 8 by omega); omega)).mono ?_
      rintro e w1 ⟨hx, hb⟩
      rcases hx with ⟨h0, A', d, rfl, ow, hd⟩ | ⟨h0, rfl⟩
      · rw [h0]
        exact ⟨⟨A', d, by rw [outN_0], by rw [outN_0]; exact ow, by rw [outN_0]; exact hd⟩, hb⟩
      · exact ⟨.err h0 rfl, hb⟩
    · rw [if_neg hm]
      refine (rsolve_shape h hc hm B cb).mono ?_
      rintro e w1 ⟨he, rfl⟩
      exact ⟨.err (by omega) he, Below.refl _ _⟩
  · rw [if_neg hc]
    refine (rsolve_err (Lib.hid (rcheck_any h (by have := hs.le.1; omega) (fun i hi => by have := hs.le.2 i hi; omega))) hc _).mono ?_
    rintro e w1 ⟨he, rfl⟩
    exact ⟨.err hc he, Below.refl _ _⟩
theorem det_shape (h : MatI w w.heap.size A n len R) (hcode : codeM n len = 0) (hm : len 0 ≠ n) :
    Calls Tryd.prog 18 #[.slice A n ca] w fun e w' => e = .returned (.tuple #[zr, .iface 42 (.int .i64 11)]) ∧ Below w.heap.size w w' := by
  obtain ⟨hn0, hl0, hn, hl, hall⟩ := codeM_zero hcode
  have hb := (Below.refl w.heap.size w).alloc (Nat.le_refl _) (.cells #[.bool false, .slice none 0 0, .slice none 0 0] 37)
  have K2 := Lib.hid (check_any (ca := ca) (h.at_below hb) (by omega) (fun i hi => by rw [hall i hi]; omega))
  rw [hcode, errM_0] at K2
  obtain ⟨b, off, A0, c0, rfl, hc0, hrows⟩ := h.at0 hn0
  have hc1 := Lib.cell?_alloc_some (.cells #[.bool false, .slice none 0 0, .slice none 0 0] 37) hc0
  have e1 : ((n : Int) == (len 0 : Int)) = false := beq_eq_false_iff_ne.2 (by omega)
  have e2 : ((n : Int) != (len 0 : Int)) = true := by rw [bne_iff_ne]; omega
  clear h hcode hm hrows hall
  generalize len 0 = l0 at *
  go_enter Tryd.func18, Tryd.ntmps18
  go_wp2_with (first | (go_at_call 24; (with_reducible refine (K2.out).mono ?_); rintro e _ ⟨rfl, rfl⟩) | fail)
  refine bodyPost_ret (v := (.tuple #[zr, .iface 42 (.int .i64 11)])) (by simp [results, Tryd.results18, go_sem]) rfl ?_
  exact ⟨rfl, (by have z0 := Below.size hb; (try simp only [World.size_alloc, World.size_setCell, World.size_drew, size_drewN'] at z0 ⊢; skip); repeat' (first | (with_reducible exact Below.refl _ _) | (with_reducible assumption) | (with_reducible refine Below.alloc ?_ ?_ _) | (with_reducible refine Below.drew ?_) | (with_reducible refine below_drewN ?_ _) | (with_reducible refine Below.setCell ?_ ?_ _) | (with_reducible refine Below.trans ?_ (Below.mono (by with_reducible assumption) ?_)) | omega | (simp only [World.size_alloc, World.size_setCell, World.size_drew, size_drewN']; omega) | go_size))⟩
end
theorem same_row {W : World} {n d d' g g' L : Nat} {A B : Option Addr} {f : Nat → Rat} (h : RowI W W.heap.size A n (can f)) (h' : RowI W W.heap.size B n (can f)) (hd : n ≤ d) (hd' : n ≤ d') (hc : W.cell? ⟨g, 0, none⟩ = some (.slice A n d)) (hc' : W.cell? ⟨g', 0, none⟩ = some (.slice B n d'))
    (hg : g < W.heap.size) (hg' : g' < W.heap.size) (hn : n ≤ 1000) (hs : ∀ i, i < n → Sz L (f i)) (hL : 1 ≤ L) (hL2 : L ≤ 1000000000) :
    Calls Tryd.prog 17 #[.slice (some ⟨g, 0, none⟩) 1 1, .slice (some ⟨g', 0, none⟩) 1 1] W fun e w' => e = .returned (.bool true) ∧ Below W.heap.size W w' :=
  same_any (M := fun _ => f) (len := fun _ => n) (L := L) (MatI.one hc hd hg h) (MatI.one hc' hd' hg' h') (by omega) (fun _ _ => hn) (fun i k _ hk => hs k hk) hL hL2
set_option maxHeartbeats 8000000 in
theorem linearSolves_law {w : World} {n ca m cb : Nat} {A B : Option Addr} {len : Nat → Nat} {R : Nat → Nat → Rw} {Rb : Nat → Rw} (h : MatI w w.heap.size A n len R) (hB : RowI w w.heap.size B m Rb) (hcb : m ≤ cb) :
    Calls Tryd.prog 3 #[.slice A n ca, .slice B m cb] w fun e w' => e = .returned (.bool true) ∧ Below w.heap.size w w' := by
  have HA := Lib.hid h
  have HB := Lib.hid hB
  have KL := Lib.hid (fun (W : World) (g : Nat) (hb : Below w.heap.size w W) (hc : W.cell? ⟨g, 0, none⟩ = some (.slice A n ca)) => large1 (cm := 1) h hb hc)
  have KV := Lib.hid (fun (W : World) (hb : Below w.heap.size w W) => vector_any (hB.kp (Kp.of_below hb)) hb.size hcb)
  clear h hB
  go_enter Tryd.func3, Tryd.ntmps3
  go_wp2_with (first | (go_at_call 11; (with_reducible refine (awake_any _).mono ?_); rintro e w1 ⟨rfl, hb1⟩; have hb1z := Below.size hb1; (try simp only [World.size_alloc, World.size_setCell, World.size_drew] at hb1z)) | fail)
  have hw1 : Below w.heap.size w (w1.alloc (.cells #[.slice A n ca] 22)) := hb1.alloc hb1.size _
  ((go_at_call 12; (with_reducible refine (KL.out _ _ hw1 (cell_new' rfl rfl)).mono ?_); rintro e w2 ⟨⟨bb, rfl, hbb⟩, hb2⟩; have hb2z := Below.size hb2; (try simp only [World.size_alloc, World.size_setCell, World.size_drew] at hb2z)))
  have hb12 : Below w.heap.size w w2 := hw1.trans (hb2.mono (by simp; omega))
  clear hw1 KL
  cases bb with
  | true =>
    clear hbb
    go_wp2_with (first | (go_at_call 11; (with_reducible refine (awake_any _).mono ?_); rintro e w3 ⟨rfl, hb3⟩; have hb3z := Below.size hb3; (try simp only [World.size_alloc, World.size_setCell, World.size_drew] at hb3z)) | fail)
    have hb13 := hb12.trans (hb3.mono hb12.size)
    go_ret
    exact ⟨rfl, hb13⟩
  | false =>
    have HS := Lib.hid (hbb rfl)
    clear hbb
    go_wp2_with fail
    ((go_at_call 13; (with_reducible refine (KV.out _ hb12).mono ?_); rintro e w3 ⟨⟨bv, rfl, hbv⟩, hb3⟩; have hb3z := Below.size hb3; (try simp only [World.size_alloc, World.size_setCell, World.size_drew] at hb3z)))
    have hb13 := hb12.trans (hb3.mono hb12.size)
    clear KV
    cases bv with
    | false =>
      clear hbv HS HA HB
      go_wp2_with (first | (go_at_call 11; (with_reducible refine (awake_any _).mono ?_); rintro e w4 ⟨rfl, hb4⟩; have hb4z := Below.size hb4; (try simp only [World.size_alloc, World.size_setCell, World.size_drew] at hb4z)) | fail)
      have hb14 := hb13.trans (hb4.mono hb13.size)
      go_ret
      exact ⟨rfl, hb14⟩
    | true =>
      have HV := Lib.hid (hbv rfl)
      clear hbv
      have K1 := Lib.hid (solve_all (ca := ca) (cb := cb) (HA.out.at_below hb13) (HB.out.at_below hb13) HS.out HV.out)
      have K2 := Lib.hid (fun W (hb : Below w.heap.size w W) => rsolve_all (ca := ca) (cb := cb) (HA.out.at_below hb) (HB.out.at_below hb) HS.out HV.out)
      have HF : Hid (∀ i, i < outN (codeSo n m len (wide (fun i k => valR (R i k)) (fun i => valR (Rb i)) (len 0))) (len 0) → Sz 300000 ((gj n (wide (fun i k => valR (R i k)) (fun i => valR (Rb i)) (len 0)) (len 0 + 1)).1 i (len 0))) := fun i hi => by
        obtain ⟨h0, hi⟩ := outN_pos hi
        have h1 : codeM n len = 0 := by
          unfold codeSo at h0
          split at h0
          · assumption
          · contradiction
        rw [codeSo, if_pos h1] at h0
        have h2 : m = n := by
          split at h0
          · assumption
          · omega
        subst h2
        rw [if_pos rfl] at h0
        obtain ⟨g1, g2, g3, g4, g5, g6⟩ := HS.out.acc h1
        have hk := codeS_kinds m (len 0) (fun i k => valR (R i k)) (fun i => valR (Rb i))
        have hle := (gj_len_le (n := m) (M := fun i k => valR (R i k)) (len 0)).2
        have hlm : len 0 ≤ m := by omega
        refine (gj_sz (L := 3) (n := m) (M := wide (fun i k => valR (R i k)) (fun i => valR (Rb i)) (len 0)) (c := len 0 + 1) (by omega) (fun a b ha hb => ?_) (len 0 + 1) (Nat.le_refl _) i (len 0) (by omega) (by omega)).more (gl37 (by omega))
        unfold wide
        by_cases e : b < len 0
        · rw [if_pos e]; exact HA.out.sz (m := 0) HS.out ha (by rw [g5 a ha]; exact e)
        · rw [if_neg e]; exact HB.out.sz HV.out ha
      have HN : Hid (outN (codeSo n m len (wide (fun i k => valR (R i k)) (fun i => valR (Rb i)) (len 0))) (len 0) ≤ 1000) := by
        show _ ≤ _
        by_cases h0 : outN (codeSo n m len (wide (fun i k => valR (R i k)) (fun i => valR (Rb i)) (len 0))) (len 0) = 0
        · omega
        · have h1 := (outN_pos (Nat.pos_of_ne_zero h0)).1
          have h2 : codeM n len = 0 := by
            unfold codeSo at h1
            split at h1
            · assumption
            · contradiction
          have := (HS.out.acc h2).2.1
          have := outN_le (c := codeSo n m len (wide (fun i k => valR (R i k)) (fun i => valR (Rb i)) (len 0))) (n := len 0)
          omega
      generalize hcs : codeSo n m len (wide (fun i k => valR (R i k)) (fun i => valR (Rb i)) (len 0)) = cs at *
      generalize hf : (fun i => (gj n (wide (fun i k => valR (R i k)) (fun i => valR (Rb i)) (len 0)) (len 0 + 1)).1 i (len 0)) = f at *
      have HF : Hid (∀ i, i < outN cs (len 0) → Sz 300000 (f i)) := fun i hi => by rw [← hf]; exact HF.out i hi
      clear hcs hf
      go_wp2_with fail
      ((go_at_call 14; (with_reducible refine (K1.out).mono ?_); rintro e w4 ⟨⟨A4, d4, rfl, r4, l4⟩, hb4⟩; have hb4z := Below.size hb4; (try simp only [World.size_alloc, World.size_setCell, World.size_drew] at hb4z)))
      have hb14 := hb13.trans (hb4.mono hb13.size)
      go_wp2_with fail
      ((go_at_call 15; (with_reducible refine (K2.out _ hb14).mono ?_); rintro e w5 ⟨⟨A5, d5, rfl, r5, l5⟩, hb5⟩; have hb5z := Below.size hb5; (try simp only [World.size_alloc, World.size_setCell, World.size_drew] at hb5z)))
      have hb15 := hb14.trans (hb5.mono hb14.size)
      have X4 := Lib.hid (r4.at_below hb5)
      have X5 := Lib.hid r5
      have KS := Lib.hid (fun W (hb : Below w5.heap.size w5 W) g g' hg hg' hc hc' => same_row (W := W) (g := g) (g' := g') (L := 300000) (X4.out.at_below hb) (X5.out.at_below hb) l4 l5 hc hc' hg hg' HN.out HF.out (by omega) (by omega))
      have KC := Lib.hid (fun W (hb : Below w.heap.size w W) => rcheck_any (ca := ca) (HA.out.at_below hb) (by have := HS.out.le.1; omega) (fun i hi => by have := HS.out.le.2 i hi; omega))
      have KCP := Lib.hid (fun W (hb : Below w.heap.size w W) => check_any (ca := ca) (HA.out.at_below hb) (by have := HS.out.le.1; omega) (fun i hi => by have := HS.out.le.2 i hi; omega))
      clear r4 r5 K1 K2 HF
      go_wp2_with (first | (go_at_call 16; (with_reducible refine (num_e _ _).mono ?_); rintro e _ ⟨rfl, rfl⟩) | ((go_at_call 17; (with_reducible refine (KS.out _ (((Below.refl _ _).alloc (Nat.le_refl _) _).alloc (by simp) _) w5.heap.size (w5.heap.size + 1) (by simp; omega) (by simp) (Lib.cell?_alloc_some _ (cell_new' rfl rfl)) (cell_new' (by simp) rfl)).mono ?_); rintro e w6 ⟨rfl, hb6⟩; have hb6z := Below.size hb6; (try simp only [World.size_alloc, World.size_setCell, World.size_drew] at hb6z))) | fail)
      have hb16 : Below w.heap.size w w6 := hb15.trans (show Below w.heap.size w5 w6 from (by have z0 := Below.size hb6; (try simp only [World.size_alloc, World.size_setCell, World.size_drew, size_drewN'] at z0 ⊢; skip); repeat' (first | (with_reducible exact Below.refl _ _) | (with_reducible assumption) | (with_reducible refine Below.alloc ?_ ?_ _) | (with_reducible refine Below.drew ?_) | (with_reducible refine below_drewN ?_ _) | (with_reducible refine Below.setCell ?_ ?_ _) | (with_reducible refine Below.trans ?_ (Below.mono (by with_reducible assumption) ?_)) | omega | (simp only [World.size_alloc, World.size_setCell, World.size_drew, size_drewN']; omega) | go_size)))
      clear KS X4 X5
      by_cases hc : codeM n len = 0
      · obtain ⟨hn7, hc7, hn0, hl0, h5, h6⟩ := HS.out.acc hc
        rw [hc] at KC KCP
        obtain ⟨b, off, A0, c0, rfl, hc0, -⟩ := HA.out.at0 hn0
        by_cases hsq : len 0 = n
        · have hd6 := (hb16.cell (lt_of_cell hc0)).trans hc0
          rw [hsq] at hd6
          obtain ⟨M, hM⟩ : ∃ M : Mf, M = fun i k => valR (R i k) := ⟨_, rfl⟩
          have KD := Lib.hid (HS.out.detP (ca := ca) hc hsq (HA.out.at_below hb16))
          have KR := Lib.hid (fun W (hb : Below w.heap.size w W) => HS.out.rredP (ca := ca) hc (HA.out.at_below hb))
          have HSM : ∀ i k, i < n → k < n → Sz 3 (M i k) := fun i k hi hk => by rw [hM]; exact HA.out.sz (m := 0) HS.out hi (by rw [h5 i hi, hsq]; exact hk)
          have HDZ := Lib.hid ((detF_sz (n := n) (M := M) (show 1 ≤ 3 by omega) HSM).more (gl37 (show n ≤ 8 by omega)))
          have HRD := Lib.hid (rdF_detF n M)
          unfold RetRR at KR
          rw [← hM] at KD KR
          rw [hsq] at KR
          rw [HRD.out] at KR
          clear hM HSM h5 h6 hc hsq HS HA HB HV hc0 HRD hc7 hl0
          generalize (gj n M n).2.length = r at *
          generalize detF n M = q at *
          go_wp2_with fail
          ((go_at_call 18; (with_reducible refine (KD.out).mono ?_); rintro e w7 ⟨⟨v7, rfl, rd7⟩, hb7⟩; have hb7z := Below.size hb7; (try simp only [World.size_alloc, World.size_setCell, World.size_drew] at hb7z)))
          obtain ⟨s7, A7, n7, c7, B7, m7, d7, rfl⟩ := rd7.form
          have hal : Below w7.heap.size w7 (w7.alloc (.cells #[.bool s7, .slice A7 n7 c7, .slice B7 m7 d7] 37)) := (Below.refl _ _).alloc (Nat.le_refl _) _
          have hb17 : Below w.heap.size w (w7.alloc (.cells #[.bool s7, .slice A7 n7 c7, .slice B7 m7 d7] 37)) := (hb16.trans (hb7.mono hb16.size)).alloc (by have := hb16.size; have := hb7.size; omega) _
          have hd7 := Lib.cell?_alloc_some (.cells #[.bool s7, .slice A7 n7 c7, .slice B7 m7 d7] 37) ((hb7.cell (lt_of_cell hd6)).trans hd6)
          have KC7 := Lib.hid (KC.out _ hb17)
          have e9 : ((n : Int) == (n : Int)) = true := by simp
          clear KD
          go_wp2_with (first | (go_at_call 19; (with_reducible refine (KC7.out).mono ?_); rintro e _ ⟨rfl, rfl⟩) | fail)
          ((go_at_call 22; (with_reducible refine (KR.out _ hb17).mono ?_); rintro e w8 ⟨⟨bo, co, P, cp, v8, rfl, own8, opv8, rd8⟩, hb8⟩; have hb8z := Below.size hb8; (try simp only [World.size_alloc, World.size_setCell, World.size_drew] at hb8z); have hb8c0 := fun o => below_at hb8 (w7.heap.size) o (by first | omega | (simp only [World.size_alloc, World.size_setCell, World.size_drew]; omega)); have hb8f0 := fun o => below_fr hb8 (w7.heap.size) o (by first | omega | (simp only [World.size_alloc, World.size_setCell, World.size_drew]; omega)); have hb8l0 : w7.heap.size < (w8).heap.size := (by omega)))
          obtain ⟨s8, A8, n8, c8, B8, m8, d8, rfl⟩ := rd8.form
          have h78 : Below w7.heap.size w7 w8 := hal.trans (hb8.mono (by simp))
          have hb18 : Below w.heap.size w w8 := hb17.trans (hb8.mono hb17.size)
          have KQ := Lib.hid (fun W (hb : Below w8.heap.size w8 W) => ratEq_any ((rd7.kp (Kp.of_below h78)).kp (Kp.of_below hb)) (rd8.kp (Kp.of_below hb)) (by have := Sz_canR HDZ.out; omega))
          clear rd7 rd8 own8 opv8 KR hal
          go_wp2_with (first | ((go_at_call 23; (with_reducible refine (KQ.out _ (by (skip); repeat' (first | (with_reducible exact Below.refl _ _) | (with_reducible assumption) | (with_reducible refine Below.alloc ?_ ?_ _) | (with_reducible refine Below.drew ?_) | (with_reducible refine below_drewN ?_ _) | (with_reducible refine Below.setCell ?_ ?_ _) | (with_reducible refine Below.trans ?_ (Below.mono (by with_reducible assumption) ?_)) | omega | (simp only [World.size_alloc, World.size_setCell, World.size_drew, size_drewN']; omega) | go_size))).mono ?_); rintro e w9 ⟨rfl, hb9⟩; have hb9z := Below.size hb9; (try simp only [World.size_alloc, World.size_setCell, World.size_drew] at hb9z); have hb9c0 := fun o => below_at hb9 (w7.heap.size) o (by first | omega | (simp only [World.size_alloc, World.size_setCell, World.size_drew]; omega)); have hb9f0 := fun o => below_fr hb9 (w7.heap.size) o (by first | omega | (simp only [World.size_alloc, World.size_setCell, World.size_drew]; omega)); have hb9l0 : w7.heap.size < (w9).heap.size := (by omega); have hb9c1 := fun o => below_at hb9 (w8.heap.size) o (by first | omega | (simp only [World.size_alloc, World.size_setCell, World.size_drew]; omega)); have hb9f1 := fun o => below_fr hb9 (w8.heap.size) o (by first | omega | (simp only [World.size_alloc, World.size_setCell, World.size_drew]; omega)); have hb9l1 : w8.heap.size < (w9).heap.size := (by omega))) | fail)
          have hb19 : Below w.heap.size w w9 := hb18.trans (show Below w.heap.size w8 w9 from (by have z0 := Below.size hb9; (try simp only [World.size_alloc, World.size_setCell, World.size_drew, size_drewN'] at z0 ⊢; skip); repeat' (first | (with_reducible exact Below.refl _ _) | (with_reducible assumption) | (with_reducible refine Below.alloc ?_ ?_ _) | (with_reducible refine Below.drew ?_) | (with_reducible refine below_drewN ?_ _) | (with_reducible refine Below.setCell ?_ ?_ _) | (with_reducible refine Below.trans ?_ (Below.mono (by with_reducible assumption) ?_)) | omega | (simp only [World.size_alloc, World.size_setCell, World.size_drew, size_drewN']; omega) | go_size)))
          go_ret
          exact ⟨rfl, hb19⟩
        · have hd6 := (hb16.cell (lt_of_cell hc0)).trans hc0
          have KD := Lib.hid (det_shape (ca := ca) (HA.out.at_below hb16) hc hsq)
          have e1 : ((n : Int) == (len 0 : Int)) = false := beq_eq_false_iff_ne.2 (by omega)
          have e2 : ((n : Int) != (len 0 : Int)) = true := by rw [bne_iff_ne]; omega
          clear h5 h6 hc hsq HS HA HB HV hc0 hc7
          generalize len 0 = l0 at *
          go_wp2_with fail
          ((go_at_call 18; (with_reducible refine (KD.out).mono ?_); rintro e w7 ⟨rfl, hb7⟩; have hb7z := Below.size hb7; (try simp only [World.size_alloc, World.size_setCell, World.size_drew] at hb7z)))
          have hal : Below w7.heap.size w7 (w7.alloc (.cells #[.bool false, .slice none 0 0, .slice none 0 0] 37)) := (Below.refl _ _).alloc (Nat.le_refl _) _
          have hb17 : Below w.heap.size w (w7.alloc (.cells #[.bool false, .slice none 0 0, .slice none 0 0] 37)) := (hb16.trans (hb7.mono hb16.size)).alloc (by have := hb16.size; have := hb7.size; omega) _
          have hd7 := Lib.cell?_alloc_some (.cells #[.bool false, .slice none 0 0, .slice none 0 0] 37) ((hb7.cell (lt_of_cell hd6)).trans hd6)
          have KC7 := Lib.hid (KC.out _ hb17)
          have KS := Lib.hid (fun W => signQ (w := W) (L := 1) ((OwQ.zero W 0).rq (Sz.zero (by omega))) (by omega) (by omega))
          clear KD
          go_wp2_with (first | (go_at_call 19; (with_reducible refine (KC7.out).mono ?_); rintro e _ ⟨rfl, rfl⟩) | (go_at_call 20; (with_reducible refine (is_eq _ _).mono ?_); rintro e _ ⟨rfl, rfl⟩) | (go_at_call 21; (with_reducible refine (KS.out _).mono ?_); rintro e w8 ⟨rfl, hb8⟩; have hb8z := Below.size hb8; (try simp only [World.size_alloc, World.size_setCell, World.size_drew] at hb8z)) | fail)
          have hb18 : Below w.heap.size w w8 := hb17.trans (hb8.mono hb17.size)
          go_ret
          exact ⟨by rw [show sgnQ 0 = 0 from rfl]; rfl, hb18⟩
      · have KD := Lib.hid (det_err (ca := ca) (Lib.hid fun W hb => check_err (HA.out.at_below (hb16.trans (hb.mono hb16.size))) (by have := HS.out.le.1; omega) (fun i hi => by have := HS.out.le.2 i hi; omega) rfl hc))
        generalize codeM n len = c at *
        have e1 : (c == 0) = false := by simp [hc]
        have e2 : (c != 0) = true := by simp [hc]
        clear HS HA HB HV KCP hc
        go_wp2_with fail
        ((go_at_call 18; (with_reducible refine (KD.out).mono ?_); rintro e w7 ⟨rfl, hb7⟩; have hb7z := Below.size hb7; (try simp only [World.size_alloc, World.size_setCell, World.size_drew] at hb7z)))
        have hb17 : Below w.heap.size w (w7.alloc (.cells #[.bool false, .slice none 0 0, .slice none 0 0] 37)) := (hb16.trans (hb7.mono hb16.size)).alloc (by have := hb16.size; have := hb7.size; omega) _
        have KC7 := Lib.hid (KC.out _ hb17)
        go_wp2_with (first | (go_at_call 19; (with_reducible refine (KC7.out).mono ?_); rintro e _ ⟨rfl, rfl⟩) | (go_at_call 16; (with_reducible refine (num_n _ _).mono ?_); rintro e _ ⟨rfl, rfl⟩) | fail)
        go_ret
        exact ⟨by simp, hb17⟩
end Go.Proofs.YtnljncncnohncaaDoor
