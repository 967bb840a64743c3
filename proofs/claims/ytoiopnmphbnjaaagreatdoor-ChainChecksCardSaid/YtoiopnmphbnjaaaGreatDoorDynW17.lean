/- Contracts of functions and lemmas, used by the proofs of the given statements. No condition beyond those that each lemma names. -/
import Derived.Test.YtoiopnmphbnjaaaGreatDoorDynW16
import Derived.Lib.SliceRun
namespace Go.Proofs.YtoiopnmphbnjaaaGreatDoor
open Go.RowKit
set_option linter.unusedSimpArgs false
set_option linter.unusedVariables false
set_option maxRecDepth 20000
/-! ## slices.Clone of words, clone of a fraction -/
set_option maxHeartbeats 4000000 in
theorem dclW_any {w : World} {c : Nat} {A : Option Addr} {l : List Nat} (h : RdW w w.heap.size A l) (hn : l.length ≤ 1000000) :
    Calls Tryz.prog 112 #[.slice A l.length c] w fun e w' => (∃ A' c', e = .returned (.slice A' l.length c') ∧ OwW w' w.heap.size A' c' l) ∧ Below w.heap.size w w' := by
  have hs := fun w => Lib.run_eql_slice_nil (P := Tryz.prog) w 54 157 A l.length c 0 0 Tryz.underlying54
  cases A with
  | none =>
    have h0 : l = [] := by
      rcases Nat.eq_zero_or_pos l.length with h0 | h0
      · exact List.length_eq_zero_iff.1 h0
      · obtain ⟨b, off, e, _⟩ := h.2 h0
        cases e
    subst h0
    simp only [List.length_nil] at hs ⊢
    go_enter Tryz.func112, Tryz.ntmps112
    go_wp2
    go_ret
    exact ⟨⟨_, _, rfl, own_nil _ _ _ _⟩, Below.refl _ _⟩
  | some a =>
    have HR := Lib.hid h
    clear h
    go_enter Tryz.func112, Tryz.ntmps112
    go_wp2_with (at_builtin; refine wpList_appW rfl (.tmp 5) (.tmp 6) rfl w.heap.size (some ⟨w.heap.size, 0, none⟩) 0 0 [] rfl rfl (OwW.lit0 (Nat.le_refl _)) w.heap.size (some a) c l.length l rfl rfl (Rds.alloc HR.out (Nat.le_refl _) _) (by omega) (by simp) ?_; intro A1 c1 w1 hown hbel hfr)
    simp only [Nat.zero_add, List.nil_append] at hown hfr
    have hb1 : Below w.heap.size w w1 := ((Below.refl _ _).alloc (Nat.le_refl _) _).trans hbel
    have HO := Lib.hid hown
    clear hown
    go_wp2
    go_ret
    exact ⟨⟨_, _, rfl, HO.out⟩, hb1⟩
theorem ofar3 {w : World} {b0 b c : Nat} {A : Option Addr} {l : List Nat} (h : OwW w b0 A c l) (hb : b < b0) (u0 u1 u2 : Value) : OwW (((w.setCell ⟨b, 0, none⟩ u0).setCell ⟨b, 1, none⟩ u1).setCell ⟨b, 2, none⟩ u2) b0 A c l := ofar _ (ofar _ (ofar _ h hb) hb) hb
set_option maxHeartbeats 16000000 in
theorem dcloneS {w : World} {b0 : Nat} {v : Value} {r : Rw} (h : RdS w b0 v r) (hv : validR r = true) (h1 : r.2.1.length ≤ 1000) (h2 : r.2.2.length ≤ 1000) :
    Calls Tryz.prog 65 #[v] w fun e w' => RetQ w.heap.size (valR r) e w' ∧ Below w.heap.size w w' := by
  obtain ⟨A, c, B, d, rfl, c1, c2, ok, rA, rB, _, _⟩ := h
  have hcan := canR_valR ok hv
  obtain ⟨s, l, m⟩ := r
  dsimp only at *
  have K1 := Lib.hid (fun X (hX : Below w.heap.size w X) => dclW_any (w := X) (c := c) (A := A) (l := l) (rA.on hX hX.size) (by omega))
  have K2 := Lib.hid (fun X (hX : Below w.heap.size w X) => dclW_any (w := X) (c := d) (A := B) (l := m) (rB.on hX hX.size) (by omega))
  have HR : Hid (∀ A' c' B' d' w', OwW w' w.heap.size A' c' l → OwW w' w.heap.size B' d' m → RetQ w.heap.size (valR (s, l, m)) (.returned (rv s A' l.length c' B' m.length d')) w') := fun A' c' B' d' w' o1 o2 => ⟨_, rfl, A', c', B', d', by rw [hcan], by rw [hcan]; exact o1, by rw [hcan]; exact o2⟩
  generalize valR (s, l, m) = q at *
  have hc0 : c1 = c1 := rfl
  clear rA rB hcan hv ok hc0
  go_enter Tryz.func65, Tryz.ntmps65
  go_wp2_with fail
  have t0 : ((w.alloc (.cells #[.bool s, .slice A l.length c, .slice B m.length d] 56)).alloc (.cells #[.bool false, .slice none 0 0, .slice none 0 0] 56)).drew.cell? ⟨w.heap.size + 1, 0, none⟩ = some (.bool false) := by simp [go_sem]
  go_region_with (first | (go_at_call 112; (with_reducible refine (K1.out _ (by (skip); repeat' (first | (with_reducible exact Below.refl _ _) | (with_reducible assumption) | (with_reducible refine Below.alloc ?_ ?_ _) | (with_reducible refine Below.drew ?_) | (with_reducible refine below_drewN ?_ _) | (with_reducible refine Below.setCell ?_ ?_ _) | (with_reducible refine Below.trans ?_ (Below.mono (by with_reducible assumption) ?_)) | omega | (simp only [ZA, ZS, ZD, ZN]; omega) | go_size))).mono ?_); rintro e w4 ⟨⟨A4, c4, rfl, own4⟩, hb4⟩; have hb4z := Below.size hb4; (try simp only [ZA, ZS, ZD] at hb4z); have hb4c0 := fun o => below_at hb4 (w.heap.size) o (by first | omega | (simp only [ZA, ZS, ZD]; omega)); have hb4f0 := fun o => below_fr hb4 (w.heap.size) o (by first | omega | (simp only [ZA, ZS, ZD]; omega)); have hb4l0 : w.heap.size < (w4).heap.size := (by omega); have hb4c1 := fun o => below_at hb4 (w.heap.size + 1) o (by first | omega | (simp only [ZA, ZS, ZD]; omega)); have hb4f1 := fun o => below_fr hb4 (w.heap.size + 1) o (by first | omega | (simp only [ZA, ZS, ZD]; omega)); have hb4l1 : w.heap.size + 1 < (w4).heap.size := (by omega)) | (go_at_call 112; (with_reducible refine (K2.out _ (by (skip); repeat' (first | (with_reducible exact Below.refl _ _) | (with_reducible assumption) | (with_reducible refine Below.alloc ?_ ?_ _) | (with_reducible refine Below.drew ?_) | (with_reducible refine below_drewN ?_ _) | (with_reducible refine Below.setCell ?_ ?_ _) | (with_reducible refine Below.trans ?_ (Below.mono (by with_reducible assumption) ?_)) | omega | (simp only [ZA, ZS, ZD, ZN]; omega) | go_size))).mono ?_); rintro e w5 ⟨⟨A5, c5, rfl, own5⟩, hb5⟩; have hb5z := Below.size hb5; (try simp only [ZA, ZS, ZD] at hb5z); have hb5c0 := fun o => below_at hb5 (w.heap.size) o (by first | omega | (simp only [ZA, ZS, ZD]; omega)); have hb5f0 := fun o => below_fr hb5 (w.heap.size) o (by first | omega | (simp only [ZA, ZS, ZD]; omega)); have hb5l0 : w.heap.size < (w5).heap.size := (by omega); have hb5c1 := fun o => below_at hb5 (w.heap.size + 1) o (by first | omega | (simp only [ZA, ZS, ZD]; omega)); have hb5f1 := fun o => below_fr hb5 (w.heap.size + 1) o (by first | omega | (simp only [ZA, ZS, ZD]; omega)); have hb5l1 : w.heap.size + 1 < (w5).heap.size := (by omega)))
  all_goals clear K1 K2
  all_goals first
    | (have o4 : OwW w5 (w.heap.size + 2) A4 c4 l := own_base (own4.below hb5) (by first | omega | (simp only [World.size_alloc, World.size_drew]; omega))
       have o5 : OwW w5 (w.heap.size + 2) A5 c5 m := own_base own5 (by first | omega | (simp only [World.size_alloc, World.size_drew]; omega))
       have e := fun o => (hb5c1 o).trans (hb4c1 o)
       have g0 : w5.cell? ⟨w.heap.size + 1, 0, none⟩ = some (.bool false) := (e 0).trans (by simp [go_sem])
       have g1 : w5.cell? ⟨w.heap.size + 1, 1, none⟩ = some (.slice none 0 0) := (e 1).trans (by simp [go_sem])
       have g2 : w5.cell? ⟨w.heap.size + 1, 2, none⟩ = some (.slice none 0 0) := (e 2).trans (by simp [go_sem])
       have hbF : Below w.heap.size w w5 := (by have z0 := Below.size hb4; have z1 := Below.size hb5; (try simp only [ZA, ZS, ZD, ZN] at z0 z1 ⊢; skip); repeat' (first | (with_reducible exact Below.refl _ _) | (with_reducible assumption) | (with_reducible refine Below.alloc ?_ ?_ _) | (with_reducible refine Below.drew ?_) | (with_reducible refine below_drewN ?_ _) | (with_reducible refine Below.setCell ?_ ?_ _) | (with_reducible refine Below.trans ?_ (Below.mono (by with_reducible assumption) ?_)) | omega | (simp only [ZA, ZS, ZD, ZN]; omega) | go_size))
       have HF := Lib.hid (HR.out A4 c4 A5 c5 _ (own_base (ofar3 (b := w.heap.size + 1) o4 (by omega) (.bool s) (.slice A4 l.length c4) (.slice A5 m.length c5)) (by omega)) (own_base (ofar3 (b := w.heap.size + 1) o5 (by omega) (.bool s) (.slice A4 l.length c4) (.slice A5 m.length c5)) (by omega)))
       have hbG : Below w.heap.size w (((w5.setCell ⟨w.heap.size + 1, 0, none⟩ (.bool s)).setCell ⟨w.heap.size + 1, 1, none⟩ (.slice A4 l.length c4)).setCell ⟨w.heap.size + 1, 2, none⟩ (.slice A5 m.length c5)) := (by have z0 := Below.size hbF; (try simp only [ZA, ZS, ZD, ZN] at z0 ⊢; skip); repeat' (first | (with_reducible exact Below.refl _ _) | (with_reducible assumption) | (with_reducible refine Below.alloc ?_ ?_ _) | (with_reducible refine Below.drew ?_) | (with_reducible refine below_drewN ?_ _) | (with_reducible refine Below.setCell ?_ ?_ _) | (with_reducible refine Below.trans ?_ (Below.mono (by with_reducible assumption) ?_)) | omega | (simp only [ZA, ZS, ZD, ZN]; omega) | go_size))
       clear o4 o5 e own4 own5 HR
       go_wp2_with fail
       (try simp only [Exit.inBlock, Exit.then])
       refine bodyPost_ret (v := rv s A4 l.length c4 A5 m.length c5) ?_ rfl ⟨HF.out, hbG⟩
       rw [results_cell1 rfl]
       go_simp)
    | (have o4 : OwW w4 (w.heap.size + 2) A4 c4 l := own_base own4 (by first | omega | (simp only [World.size_alloc, World.size_drew]; omega))
       have o5 : OwW w4 (w.heap.size + 2) A5 c5 m := own_base (own5.below hb4) (by first | omega | (simp only [World.size_alloc, World.size_drew]; omega))
       have e := fun o => (hb4c1 o).trans (hb5c1 o)
       have g0 : w4.cell? ⟨w.heap.size + 1, 0, none⟩ = some (.bool false) := (e 0).trans (by simp [go_sem])
       have g1 : w4.cell? ⟨w.heap.size + 1, 1, none⟩ = some (.slice none 0 0) := (e 1).trans (by simp [go_sem])
       have g2 : w4.cell? ⟨w.heap.size + 1, 2, none⟩ = some (.slice none 0 0) := (e 2).trans (by simp [go_sem])
       have hbF : Below w.heap.size w w4 := (by have z0 := Below.size hb5; have z1 := Below.size hb4; (try simp only [ZA, ZS, ZD, ZN] at z0 z1 ⊢; skip); repeat' (first | (with_reducible exact Below.refl _ _) | (with_reducible assumption) | (with_reducible refine Below.alloc ?_ ?_ _) | (with_reducible refine Below.drew ?_) | (with_reducible refine below_drewN ?_ _) | (with_reducible refine Below.setCell ?_ ?_ _) | (with_reducible refine Below.trans ?_ (Below.mono (by with_reducible assumption) ?_)) | omega | (simp only [ZA, ZS, ZD, ZN]; omega) | go_size))
       have HF := Lib.hid (HR.out A4 c4 A5 c5 _ (own_base (ofar3 (b := w.heap.size + 1) o4 (by omega) (.bool s) (.slice A4 l.length c4) (.slice A5 m.length c5)) (by omega)) (own_base (ofar3 (b := w.heap.size + 1) o5 (by omega) (.bool s) (.slice A4 l.length c4) (.slice A5 m.length c5)) (by omega)))
       have hbG : Below w.heap.size w (((w4.setCell ⟨w.heap.size + 1, 0, none⟩ (.bool s)).setCell ⟨w.heap.size + 1, 1, none⟩ (.slice A4 l.length c4)).setCell ⟨w.heap.size + 1, 2, none⟩ (.slice A5 m.length c5)) := (by have z0 := Below.size hbF; (try simp only [ZA, ZS, ZD, ZN] at z0 ⊢; skip); repeat' (first | (with_reducible exact Below.refl _ _) | (with_reducible assumption) | (with_reducible refine Below.alloc ?_ ?_ _) | (with_reducible refine Below.drew ?_) | (with_reducible refine below_drewN ?_ _) | (with_reducible refine Below.setCell ?_ ?_ _) | (with_reducible refine Below.trans ?_ (Below.mono (by with_reducible assumption) ?_)) | omega | (simp only [ZA, ZS, ZD, ZN]; omega) | go_size))
       clear o4 o5 e own4 own5 HR
       go_wp2_with fail
       (try simp only [Exit.inBlock, Exit.then])
       refine bodyPost_ret (v := rv s A4 l.length c4 A5 m.length c5) ?_ rfl ⟨HF.out, hbG⟩
       rw [results_cell1 rfl]
       go_simp)
end Go.Proofs.YtoiopnmphbnjaaaGreatDoor
