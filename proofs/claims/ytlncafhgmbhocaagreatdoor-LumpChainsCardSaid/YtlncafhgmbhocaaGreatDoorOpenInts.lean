/- Contracts of functions and lemmas, used by the proofs of the given statements. No condition beyond those that each lemma names. -/
import Derived.Test.YtlncafhgmbhocaaGreatDoorJLinO
import Derived.OpenShut
import Derived.Test.YtlncafhgmbhocaaGreatDoorJBase
namespace Go.Proofs.YtlncafhgmbhocaaGreatDoor
set_option linter.unusedSimpArgs false
open Go.ChangeShapes Go.WideShapes Go.ChangeAt Go.RowKit Go.Joins Go.Deep
set_option maxRecDepth 100000
set_option linter.unusedVariables false
/-! ## a list of ints out of what a statement is handed -/
section
variable {H : Type} {enc : TypeId × Value → H} {W : World} {base : Nat}
theorem open_intsC {fuel : Nat} {cs : List Value} {x : DataW H × List MemPlace} (h : DataW.trod enc Tryz.prog W 0 (fun _ => true) true fuel 26 cs = some x) :
    ∃ A n c P, cs = [.slice A n c] ∧ n ≤ c ∧ PaI W A n P := by
  rcases open_ints Tryz.underlying26 Tryz.underlying3 (by kernel_rfl) h with ⟨rfl, _⟩ | ⟨a, len, cap, zs, rfl, _, hl, hm, hz, _, hc, hw⟩
  · exact ⟨none, 0, 0, fun _ => 0, rfl, Nat.le_refl _, PaI.nil_ _ _⟩
  · simp only [if_true] at hz
    refine ⟨some a, len, cap, fun j => zs.getD j 0, rfl, hl, by rw [zis_length, Nat.mul_one], fun hn => ?_⟩
    have hcell : ∀ j, j < len → W.cell? (a.add j) = some (.int .i64 (zs.getD j 0)) := fun j hj => hc j (by omega)
    have h0 := hcell 0 (by omega)
    obtain ⟨b, off, rfl⟩ := spot_none h0
    refine ⟨b, off, rfl, ?_, fun j u hu => ?_⟩
    · rw [addr_add] at h0; exact lt_of_cell h0
    · have hj : j < len := by
        have := (List.getElem?_eq_some_iff.1 hu).1
        rwa [zis_length] at this
      rw [zis_get hj] at hu
      have := hcell j hj
      rw [addr_add] at this
      rw [this]; exact hu
theorem open_intsE {v : Value} {d : DataW H} {p : List MemPlace} (hv : Value.okWide Tryz.prog W .any base 26 v) (h : DataW.Trod enc Tryz.prog W 0 (fun _ => true) true 26 v d p) :
    ∃ A n c P, v = .slice A n c ∧ n ≤ c ∧ PaI W A n P := by
  obtain ⟨a0, len, cap, rfl⟩ := okWide_slice Tryz.underlying26 hv
  obtain ⟨fuel, hf⟩ := h
  obtain ⟨A, n, c, P, e, hc, hr⟩ := open_intsC hf
  simp [Value.cells] at e
  obtain ⟨rfl, rfl, rfl⟩ := e
  exact ⟨_, _, _, P, rfl, hc, hr⟩
end
end Go.Proofs.YtlncafhgmbhocaaGreatDoor
