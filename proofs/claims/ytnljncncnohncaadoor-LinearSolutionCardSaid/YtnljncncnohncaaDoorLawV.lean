/- Contracts of functions and lemmas, used by the proofs of the given statements. No condition beyond those that each lemma names. -/
import Derived.Test.YtnljncncnohncaaDoorLawL
namespace Go.Proofs.YtnljncncnohncaaDoor
open Go.RowKit
set_option linter.unusedSimpArgs false
set_option linter.unusedVariables false
set_option maxRecDepth 20000
attribute [local irreducible] nv wp win plainB validR valR canR
/-! ## the law's vector -/
theorem RowI.base {w : World} {b0 b1 n : Nat} {A : Option Addr} {R : Nat → Rw} (h : RowI w b0 A n R) (hb : b0 ≤ b1) : RowI w b1 A n R := by
  obtain ⟨V, h1, h2, h3⟩ := h
  exact ⟨V, fun k hk => (h1 k hk).base hb, h2, fun hn a ha => Nat.lt_of_lt_of_le (h3 hn a ha) hb⟩
theorem MatI.one {w : World} {b g n c : Nat} {A : Option Addr} {R : Nat → Rw} (hc : w.cell? ⟨g, 0, none⟩ = some (.slice A n c)) (hn : n ≤ c) (hg : g < b) (h : RowI w b A n R) : MatI w b (some ⟨g, 0, none⟩) 1 (fun _ => n) (fun _ => R) := by
  refine ⟨fun _ => A, fun _ => c, ⟨rfl, fun _ => ⟨g, 0, rfl, lt_of_cell hc, fun j u hu => ?_⟩⟩, fun _ a ha => ?_, fun i hi => ⟨hn, h⟩⟩
  · rw [Nat.zero_add]
    match j, hu with
    | 0, hu => simp [rowsC] at hu; subst hu; exact hc
    | j + 1, hu => simp [rowsC] at hu
  · injection ha with ha; subst ha; exact hg
def RetV (n : Nat) (R : Nat → Rw) (e : Ending) : Prop := ∃ b : Bool, e = .returned (.bool b) ∧ (b = true → SmallR n R)
theorem vector_any {w : World} {b0 n c : Nat} {A : Option Addr} {R : Nat → Rw} (h : RowI w b0 A n R) (hb : b0 ≤ w.heap.size) (hc : n ≤ c) :
    Calls Tryd.prog 13 #[.slice A n c] w fun e w' => RetV n R e ∧ Below w.heap.size w w' := by
  obtain ⟨W1, hW1⟩ : ∃ W1, W1 = (w.alloc (.cells #[.slice A n c] 23)).alloc (.cells #[.slice (some ⟨w.heap.size, 0, none⟩) 1 1] 22) := ⟨_, rfl⟩
  have hbw : Below w.heap.size w W1 := by rw [hW1]; exact (((Below.refl _ w).alloc (by simp) _).alloc (by simp) _)
  have hsz : W1.heap.size = w.heap.size + 2 := by rw [hW1]; simp
  have K := large_any (w := W1) (b0 := w.heap.size + 2) (g := w.heap.size + 1) (m := 1) (cm := 1) (n := fun _ => 1) (len := fun _ _ => n) (R := fun _ _ => R) (fun t ht => by
    obtain rfl : t = 0 := by omega
    refine ⟨some ⟨w.heap.size, 0, none⟩, 1, by rw [hW1]; exact cell_new' (by simp) rfl, MatI.one (g := w.heap.size) (c := c) (by rw [hW1]; exact Lib.cell?_alloc_some _ (cell_new' (by simp) rfl)) hc (by omega) ?_⟩
    exact (h.kp (Kp.of_below hbw)).base (by omega)) (by omega)
  rw [hW1] at K hbw
  replace K := Lib.hid K
  clear h hW1 hsz
  go_enter Tryd.func13, Tryd.ntmps13
  go_wp2_with (first | (go_at_call 12; (with_reducible refine (K.out).mono ?_); rintro e w3 ⟨⟨bb, rfl, hbb⟩, hb3⟩) | fail)
  have hb4 : Below w.heap.size w w3 := hbw.trans (hb3.mono (by simp; omega))
  go_ret
  exact ⟨⟨!bb, rfl, fun h => (hbb (by simpa using h) 0 (by omega)).2 0 (by omega)⟩, hb4⟩
end Go.Proofs.YtnljncncnohncaaDoor
