/- Contracts of functions and lemmas, used by the proofs of the given statements. No condition beyond those that each lemma names. -/
import Derived.Test.YtnljncncnohncaaDoorAwA
namespace Go.Proofs.YtnljncncnohncaaDoor
open Go.RowKit
set_option linter.unusedSimpArgs false
set_option linter.unusedVariables false
set_option maxRecDepth 20000
/-! ## the document's example, in plain numbers -/
def exX (i k : Nat) : Nat := if i = 0 then (if k = 0 then 1 else 2) else (if k = 0 then 3 else 4)
def exY (i k : Nat) : Nat := if k = 0 then 5 else 6
def exM (i k : Nat) : Rat := (exX i k : Rat)
def exW : Mf := wide exM (fun i => ((exY 0 i : Nat) : Rat)) 2
theorem ex_det : detF 2 exM = -2 := by decide +kernel
theorem ex_code : codeS 2 2 exW = 0 := by decide +kernel
theorem ex_x0 : (gj 2 exW 3).1 0 2 = -4 := by decide +kernel
theorem ex_x1 : (gj 2 exW 3).1 1 2 = 9/2 := by decide +kernel
theorem ex_codeM : codeM 2 (fun _ => 2) = 0 := by decide +kernel
theorem ex_gl : gl 1 3 ≤ 1000000000 := by decide +kernel
theorem tx1 : Lib.trimLeftB (strOfNums (nineL 1)).data.toList 48 = [49] := by decide +kernel
theorem tx2 : Lib.trimLeftB (strOfNums (nineL 2)).data.toList 48 = [50] := by decide +kernel
theorem tx4 : Lib.trimLeftB (strOfNums (nineL 4)).data.toList 48 = [52] := by decide +kernel
theorem tx9 : Lib.trimLeftB (strOfNums (nineL 9)).data.toList 48 = [57] := by decide +kernel
theorem sz_nat {n : Nat} (h : n < 4294967296) : Sz 1 (n : Rat) := ⟨by show (Rat.num (n : Rat)).natAbs < wp 1; rw [wp_one, Rat.num_natCast]; simpa using h, by rw [wp_one, Rat.den_natCast]; omega⟩
attribute [local irreducible] nv wp win plainB validR valR canR
end Go.Proofs.YtnljncncnohncaaDoor
namespace Go.Proofs.YtnljncncnohncaaDoor
open Go.RowKit
set_option linter.unusedSimpArgs false
set_option linter.unusedVariables false
set_option maxRecDepth 20000
attribute [local irreducible] nv wp win plainB validR valR canR
/-! ## the law's awake -/
theorem two_cases {P : Nat → Prop} (h0 : P 0) (h1 : P 1) : ∀ i, i < 2 → P i := by
  intro i hi
  match i, hi with
  | 0, _ => exact h0
  | 1, _ => exact h1
theorem exA_ints (g : Nat) (W : World) (h0 : W.cell? ⟨g+2, 0, none⟩ = some (.slice (some ⟨g, 0, none⟩) 2 2)) (h1 : W.cell? ⟨g+2, 1, none⟩ = some (.slice (some ⟨g+1, 0, none⟩) 2 2))
    (a0 : W.cell? ⟨g, 0, none⟩ = some (.int .i64 1)) (a1 : W.cell? ⟨g, 1, none⟩ = some (.int .i64 2)) (b0 : W.cell? ⟨g+1, 0, none⟩ = some (.int .i64 3)) (b1 : W.cell? ⟨g+1, 1, none⟩ = some (.int .i64 4)) :
    Calls Tryd.prog 38 #[.slice (some ⟨g+2, 0, none⟩) 2 2] W fun e w' => RetO W.heap.size 2 (fun _ => 2) exM e w' ∧ Below W.heap.size W w' :=
  ints_any (X := exX) (Ib := fun i => g + i) (len := fun _ => 2) ⟨two_cases h0 h1, two_cases (two_cases a0 a1) (two_cases b0 b1)⟩ (by omega) (fun _ _ => by omega) (fun i k _ _ => by unfold exX; split <;> split <;> omega)
theorem exB_ints (g : Nat) (W : World) (h0 : W.cell? ⟨g+1, 0, none⟩ = some (.slice (some ⟨g, 0, none⟩) 2 2))
    (a0 : W.cell? ⟨g, 0, none⟩ = some (.int .i64 5)) (a1 : W.cell? ⟨g, 1, none⟩ = some (.int .i64 6)) :
    Calls Tryd.prog 38 #[.slice (some ⟨g+1, 0, none⟩) 1 1] W fun e w' => RetO W.heap.size 1 (fun _ => 2) (fun i k => (exY i k : Rat)) e w' ∧ Below W.heap.size W w' :=
  ints_any (X := exY) (Ib := fun i => g + i) (len := fun _ => 2) ⟨fun i hi => (by obtain rfl : i = 0 := by omega
                                                                                  exact h0), fun i hi => (by obtain rfl : i = 0 := by omega
                                                                                                             exact two_cases a0 a1)⟩ (by omega) (fun _ _ => by omega) (fun i k _ _ => by unfold exY; split <;> omega)
theorem ex_sz (i k : Nat) : (can (exM i) k).2.1.length ≤ 1 ∧ (can (exM i) k).2.2.length ≤ 1 := Sz_canR (sz_nat (by unfold exX; split <;> split <;> omega))
theorem ex_szy (k : Nat) : (can (fun i => (exY 0 i : Rat)) k).2.1.length ≤ 1 ∧ (can (fun i => (exY 0 i : Rat)) k).2.2.length ≤ 1 := Sz_canR (sz_nat (by unfold exY; split <;> omega))
theorem ex_detA {w : World} {A : Option Addr} {ca : Nat} (h : MatI w w.heap.size A 2 (fun _ => 2) (fun i => can (exM i))) :
    Calls Tryd.prog 18 #[.slice A 2 ca] w fun e w' => RetS w.heap.size (-2) .nilIface e w' ∧ Below w.heap.size w w' := by
  have := det_any (ca := ca) h ex_codeM rfl (L := 1) (fun i k _ _ => ex_sz i k) (fun i k _ _ => canR_ok _) (Nat.le_refl _) (by decide +kernel)
  have e : (fun i k => valR ((fun i => can (exM i)) i k)) = exM := by funext i k; exact valR_canR _
  rw [e, ex_det] at this
  exact this
def RetX (b : Nat) (e : Ending) (w' : World) : Prop := ∃ A d, e = .returned (.tuple #[.slice A 2 d, .nilIface]) ∧ OwR w' b A d 2 (can fun i => (gj 2 exW 3).1 i 2)
theorem ex_solveA {w : World} {A B : Option Addr} {ca cb : Nat} (h : MatI w w.heap.size A 2 (fun _ => 2) (fun i => can (exM i))) (hB : RowI w w.heap.size B 2 (can fun i => (exY 0 i : Rat))) :
    Calls Tryd.prog 14 #[.slice A 2 ca, .slice B 2 cb] w fun e w' => RetX w.heap.size e w' ∧ Below w.heap.size w w' := by
  have := solve_any (m := 0) (ca := ca) (cb := cb) h hB ex_codeM rfl (L := 1) (fun i k _ _ => ex_sz i k) (fun i k _ _ => canR_ok _) (fun k _ => ex_szy k) (fun k _ => canR_ok _) (Nat.le_refl _) ex_gl
  have e : (fun i k => valR ((fun i => can (exM i)) i k)) = exM := by funext i k; exact valR_canR _
  have e2 : (fun i => valR ((can fun i => (exY 0 i : Rat)) i)) = fun i => (exY 0 i : Rat) := by funext k; exact valR_canR _
  rw [e, e2] at this
  refine this.mono ?_
  rintro e9 w' ⟨h1, h2⟩
  unfold RetSolve at h1
  rw [show wide exM (fun i => (exY 0 i : Rat)) 2 = exW from rfl, if_pos ex_code] at h1
  exact ⟨h1, h2⟩
theorem ex_text1 {w : World} {v : Value} (h : RdR w v (canR (-2))) : Calls Tryd.prog 39 #[v] w fun e w' => e = .returned (.string ⟨#[45, 50]⟩) ∧ Below w.heap.size w w' :=
  (text_can h (by decide +kernel) (by decide +kernel) (by decide +kernel) [50] [49] (by decide +kernel) (by decide +kernel) (by simp) (by simp) (by simp) (by simp)).mono fun e w' h => ⟨h.1.trans (congrArg (fun x => Ending.returned (.string x)) (by decide +kernel)), h.2⟩
theorem ex_text2 {w : World} {v : Value} (h : RdR w v (canR (-4))) : Calls Tryd.prog 39 #[v] w fun e w' => e = .returned (.string ⟨#[45, 52]⟩) ∧ Below w.heap.size w w' :=
  (text_can h (by decide +kernel) (by decide +kernel) (by decide +kernel) [52] [49] (by decide +kernel) (by decide +kernel) (by simp) (by simp) (by simp) (by simp)).mono fun e w' h => ⟨h.1.trans (congrArg (fun x => Ending.returned (.string x)) (by decide +kernel)), h.2⟩
theorem ex_text3 {w : World} {v : Value} (h : RdR w v (canR (9/2))) : Calls Tryd.prog 39 #[v] w fun e w' => e = .returned (.string ⟨#[57, 47, 50]⟩) ∧ Below w.heap.size w w' :=
  (text_can h (by decide +kernel) (by decide +kernel) (by decide +kernel) [57] [50] (by decide +kernel) (by decide +kernel) (by simp) (by simp) (by simp) (by simp)).mono fun e w' h => ⟨h.1.trans (congrArg (fun x => Ending.returned (.string x)) (by decide +kernel)), h.2⟩
theorem MatO.row0 {w : World} {b c n : Nat} {A : Option Addr} {len : Nat → Nat} {M : Nat → Nat → Rat} (h : MatO w b A c n len M) (hn : 0 < n) : ∃ g A0 c0, A = some ⟨g, 0, none⟩ ∧ w.cell? ⟨g, 0, none⟩ = some (.slice A0 (len 0) c0) ∧ OwR w b A0 c0 (len 0) (can (M 0)) := by
  obtain ⟨Ar, cp, h1, h2⟩ := h
  have h3 := Rds.of_own h1
  obtain ⟨g, off, e, hb, hc⟩ := h3.2 hn
  have e2 : off = 0 := by
    rcases h1.2 with ⟨h, _⟩ | ⟨g', cap, cur, e', _⟩
    · rw [e] at h; cases h
    · rw [e] at e'; injection e' with e'; injection e' with e'; injection e'
  subst e2
  exact ⟨g, Ar 0, cp 0, e, hc 0 _ (by rw [rowsC_get hn]), h2 0 hn⟩
theorem cell_new (w : World) (cs : Array Value) (t : TypeId) (i : Nat) {v : Value} (h : cs[i]? = some v) : (w.alloc (.cells cs t)).cell? ⟨w.heap.size, i, none⟩ = some v := by
  rw [World.cell?_alloc_new]; exact h
theorem cell_new' {w : World} {cs : Array Value} {t : TypeId} {i g : Nat} {v : Value} (hg : g = w.heap.size) (h : cs[i]? = some v) : (w.alloc (.cells cs t)).cell? ⟨g, i, none⟩ = some v := by
  subst hg; exact cell_new w cs t i h
set_option maxHeartbeats 4000000 in
theorem awake_any (w : World) : Calls Tryd.prog 11 #[] w fun e w' => e = .returned (.bool true) ∧ Below w.heap.size w w' := by
  obtain ⟨W1, hW1⟩ : ∃ W1, W1 = ((w.alloc (.cells #[.int .i64 1, .int .i64 2] 3)).alloc (.cells #[.int .i64 3, .int .i64 4] 3)).alloc (.cells #[.slice (some ⟨w.heap.size, 0, none⟩) 2 2, .slice (some ⟨w.heap.size + 1, 0, none⟩) 2 2] 44) := ⟨_, rfl⟩
  have K1 := exA_ints w.heap.size W1 (by rw [hW1]; exact cell_new' (by simp) rfl) (by rw [hW1]; exact cell_new' (by simp) rfl)
    (by rw [hW1]; exact Lib.cell?_alloc_some _ (Lib.cell?_alloc_some _ (cell_new _ _ _ _ rfl))) (by rw [hW1]; exact Lib.cell?_alloc_some _ (Lib.cell?_alloc_some _ (cell_new _ _ _ _ rfl)))
    (by rw [hW1]; exact Lib.cell?_alloc_some _ (cell_new' (by simp) rfl)) (by rw [hW1]; exact Lib.cell?_alloc_some _ (cell_new' (by simp) rfl))
  rw [hW1] at K1
  replace K1 := Lib.hid K1
  clear hW1
  go_enter Tryd.func11, Tryd.ntmps11
  go_wp2_with (first | (go_at_call 38; (with_reducible refine (K1.out).mono ?_); rintro e w3 ⟨⟨A1, c1, rfl, own1⟩, hb3⟩; have hb3z := Below.size hb3; (try simp only [World.size_alloc, World.size_setCell, World.size_drew] at hb3z); have hb3c0 := fun o => below_at hb3 (w.heap.size) o (by first | omega | (simp only [World.size_alloc, World.size_setCell, World.size_drew]; omega)); have hb3f0 := fun o => below_fr hb3 (w.heap.size) o (by first | omega | (simp only [World.size_alloc, World.size_setCell, World.size_drew]; omega)); have hb3l0 : w.heap.size < (w3).heap.size := (by omega)) | ((go_at_call 18; (with_reducible refine (ex_detA (own1.mi hb3.size)).mono ?_); rintro e w4 ⟨⟨v4, rfl, rd4⟩, hb4⟩; have hb4z := Below.size hb4; (try simp only [World.size_alloc, World.size_setCell, World.size_drew] at hb4z); have hb4c0 := fun o => below_at hb4 (w.heap.size) o (by first | omega | (simp only [World.size_alloc, World.size_setCell, World.size_drew]; omega)); have hb4f0 := fun o => below_fr hb4 (w.heap.size) o (by first | omega | (simp only [World.size_alloc, World.size_setCell, World.size_drew]; omega)); have hb4l0 : w.heap.size < (w4).heap.size := (by omega)); obtain ⟨s4, A4, n4, c4, B4, m4, d4, rfl⟩ := rd4.form) | fail)
  have K2 := exB_ints (w4.heap.size + 1) (((w4.alloc (.cells #[.bool s4, .slice A4 n4 c4, .slice B4 m4 d4] 37)).alloc (.cells #[.int .i64 5, .int .i64 6] 3)).alloc (.cells #[.slice (some ⟨w4.heap.size + 1, 0, none⟩) 2 2] 44)) (cell_new' (by simp) rfl) (Lib.cell?_alloc_some _ (cell_new' (by simp) rfl)) (Lib.cell?_alloc_some _ (cell_new' (by simp) rfl))
  ((go_at_call 38; (with_reducible refine (K2).mono ?_); rintro e w5 ⟨⟨A5, c5, rfl, own5⟩, hb5⟩; have hb5z := Below.size hb5; (try simp only [World.size_alloc, World.size_setCell, World.size_drew] at hb5z); have hb5c0 := fun o => below_at hb5 (w4.heap.size) o (by first | omega | (simp only [World.size_alloc, World.size_setCell, World.size_drew]; omega)); have hb5f0 := fun o => below_fr hb5 (w4.heap.size) o (by first | omega | (simp only [World.size_alloc, World.size_setCell, World.size_drew]; omega)); have hb5l0 : w4.heap.size < (w5).heap.size := (by omega)))
  clear K1 K2
  have hb45 : Below w4.heap.size w4 w5 := ((((Below.refl _ w4).alloc (by simp) _).alloc (by simp) _).alloc (by simp; omega) _).trans (hb5.mono (by simp; omega))
  have hb35 : Below w3.heap.size w3 w5 := hb4.trans (hb45.mono hb4z)
  have m1 := (own1.below hb35).mi (by have := hb3.size; have := hb35.size; omega)
  obtain ⟨g5, A0, c0, rfl, hc5, own50⟩ := own5.row0 (by omega)
  have r1 := own50.ri hb5.size
  have KS := Lib.hid (ex_solveA (ca := c1) (cb := c0) m1 r1)
  have rd5 := rd4.rdr.below hb45
  clear own1 own5 own50 m1 r1 rd4
  go_wp2_with (first | (go_at_call 14; (with_reducible refine (KS.out).mono ?_); rintro e w6 ⟨⟨A6, d6, rfl, own6⟩, hb6⟩; have hb6z := Below.size hb6; (try simp only [World.size_alloc, World.size_setCell, World.size_drew] at hb6z); have hb6c0 := fun o => below_at hb6 (w4.heap.size) o (by first | omega | (simp only [World.size_alloc, World.size_setCell, World.size_drew]; omega)); have hb6f0 := fun o => below_fr hb6 (w4.heap.size) o (by first | omega | (simp only [World.size_alloc, World.size_setCell, World.size_drew]; omega)); have hb6l0 : w4.heap.size < (w6).heap.size := (by omega)) | fail)
  obtain ⟨g6, rfl⟩ := own6.form (by omega)
  obtain ⟨s0, X0, x0, y0, Y0, u0, t0, p0, p1, p2, rx0⟩ := own6.at_ (show 0 < 2 by omega)
  obtain ⟨s1, X1, x1, y1, Y1, u1, t1, q0, q1, q2, rx1⟩ := own6.at_ (show 1 < 2 by omega)
  have hlt6 := own6.lt
  have rd6 := rd5.below hb6
  have f0 := rx0.rdr
  have f1 := rx1.rdr
  rw [show (can fun i => (gj 2 exW 3).1 i 2) 0 = canR (-4) from congrArg canR ex_x0] at f0
  rw [show (can fun i => (gj 2 exW 3).1 i 2) 1 = canR (9/2) from congrArg canR ex_x1] at f1
  simp only [Nat.zero_mul, Nat.one_mul, Nat.zero_add] at p0 p1 p2 q0 q1 q2
  have KA := Lib.hid (fun W (hb : Below w6.heap.size w6 W) => ex_text1 (rd6.below hb))
  have KB := Lib.hid (fun W (hb : Below w6.heap.size w6 W) => ex_text2 (f0.below hb))
  have KC := Lib.hid (fun W (hb : Below w6.heap.size w6 W) => ex_text3 (f1.below hb))
  clear KS own6 rx0 rx1 rd5 rd6 f0 f1
  ((go_at_call 39; (with_reducible refine (KA.out _ (Below.refl _ _)).mono ?_); rintro e w7 ⟨rfl, hb7⟩; have hb7z := Below.size hb7; (try simp only [World.size_alloc, World.size_setCell, World.size_drew] at hb7z); have hb7c0 := fun o => below_at hb7 (w4.heap.size) o (by first | omega | (simp only [World.size_alloc, World.size_setCell, World.size_drew]; omega)); have hb7f0 := fun o => below_fr hb7 (w4.heap.size) o (by first | omega | (simp only [World.size_alloc, World.size_setCell, World.size_drew]; omega)); have hb7l0 : w4.heap.size < (w7).heap.size := (by omega); have hb7c1 := fun o => below_at hb7 (g6) o (by first | omega | (simp only [World.size_alloc, World.size_setCell, World.size_drew]; omega)); have hb7f1 := fun o => below_fr hb7 (g6) o (by first | omega | (simp only [World.size_alloc, World.size_setCell, World.size_drew]; omega)); have hb7l1 : g6 < (w7).heap.size := (by omega)))
  go_wp2_with (first | (go_at_call 39; (with_reducible refine (KB.out _ hb7).mono ?_); rintro e w8 ⟨rfl, hb8⟩; have hb8z := Below.size hb8; (try simp only [World.size_alloc, World.size_setCell, World.size_drew] at hb8z); have hb8c0 := fun o => below_at hb8 (w4.heap.size) o (by first | omega | (simp only [World.size_alloc, World.size_setCell, World.size_drew]; omega)); have hb8f0 := fun o => below_fr hb8 (w4.heap.size) o (by first | omega | (simp only [World.size_alloc, World.size_setCell, World.size_drew]; omega)); have hb8l0 : w4.heap.size < (w8).heap.size := (by omega); have hb8c1 := fun o => below_at hb8 (g6) o (by first | omega | (simp only [World.size_alloc, World.size_setCell, World.size_drew]; omega)); have hb8f1 := fun o => below_fr hb8 (g6) o (by first | omega | (simp only [World.size_alloc, World.size_setCell, World.size_drew]; omega)); have hb8l1 : g6 < (w8).heap.size := (by omega)) | (go_at_call 39; (with_reducible refine (KC.out _ (hb7.trans (hb8.mono hb7z))).mono ?_); rintro e w9 ⟨rfl, hb9⟩; have hb9z := Below.size hb9; (try simp only [World.size_alloc, World.size_setCell, World.size_drew] at hb9z); have hb9c0 := fun o => below_at hb9 (w4.heap.size) o (by first | omega | (simp only [World.size_alloc, World.size_setCell, World.size_drew]; omega)); have hb9f0 := fun o => below_fr hb9 (w4.heap.size) o (by first | omega | (simp only [World.size_alloc, World.size_setCell, World.size_drew]; omega)); have hb9l0 : w4.heap.size < (w9).heap.size := (by omega); have hb9c1 := fun o => below_at hb9 (g6) o (by first | omega | (simp only [World.size_alloc, World.size_setCell, World.size_drew]; omega)); have hb9f1 := fun o => below_fr hb9 (g6) o (by first | omega | (simp only [World.size_alloc, World.size_setCell, World.size_drew]; omega)); have hb9l1 : g6 < (w9).heap.size := (by omega)) | fail)
  have hbw3 : Below w.heap.size w w3 := ((((Below.refl _ w).alloc (by simp) _).alloc (by simp) _).alloc (by simp; omega) _).trans (hb3.mono (by simp; omega))
  have h9 := hbw3.trans ((hb35.mono (by omega)).trans ((hb6.mono (by omega)).trans ((hb7.mono (by omega)).trans ((hb8.mono (by omega)).trans (hb9.mono (by omega))))))
  go_ret
  exact ⟨rfl, h9⟩
end Go.Proofs.YtnljncncnohncaaDoor
