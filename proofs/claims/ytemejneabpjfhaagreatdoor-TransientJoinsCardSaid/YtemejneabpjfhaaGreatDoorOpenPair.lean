/- Contracts of functions and lemmas, used by the proofs of the given statements. No condition beyond those that each lemma names. -/
import Derived.Test.YtemejneabpjfhaaGreatDoorOpenCh
import Derived.OpenShut
namespace Go.Proofs.YtemejneabpjfhaaGreatDoor
set_option linter.unusedSimpArgs false
open Go.ChangeShapes Go.WideShapes Go.ChangeAt Go.RowKit Go.Joins Go.Deep
set_option maxRecDepth 100000
set_option linter.unusedVariables false
/-! ## a pair of bytes out of what a statement is handed -/
section
variable {H : Type} {enc : TypeId × Value → H} {W : World} {base : Nat}
theorem okWide_arr {P : Program} {w : World} {r : Reach} {t : TypeId} {v : Value} {n : Nat} {e : TypeId} (ht : P.underlying t = some (.array n e)) (h : Value.okWide P w r base t v) : ∃ cs, v = .agg cs ∧ cs.size = P.cellsOf t := by
  simp only [Value.okWide, ht] at h
  obtain ⟨cs, h1, h2, _⟩ := h
  exact ⟨cs, h1, h2⟩
theorem byte_nat {x : Int} (w : (Lit.int .u8 x).wf = true) : ∃ p : Nat, x = (p : Int) ∧ p < 256 := by
  have h : 0 ≤ x ∧ x ≤ 255 := by simpa [Lit.wf, IntKind.min, IntKind.max, IntKind.signed, IntKind.bits] using w
  exact ⟨x.toNat, by omega, by omega⟩
theorem open_pairE {v : Value} {d : DataW H} {p : List MemPlace} (hv : Value.okWide Tryz.prog W .any base 59 v) (h : DataW.Trod enc Tryz.prog W 0 (fun _ => true) true 59 v d p) :
    ∃ a b : Nat, v = .agg #[.int .u8 (a : Int), .int .u8 (b : Int)] ∧ a < 256 ∧ b < 256 := by
  obtain ⟨cs, rfl, hsz⟩ := okWide_arr Tryz.underlying59 hv
  obtain ⟨fuel, hf⟩ := h
  have hc2 : Tryz.prog.cellsOf 59 = 2 := by kernel_rfl
  rw [hc2] at hsz
  obtain ⟨l⟩ := cs
  match l, hsz with
  | [v0, v1], _ =>
    obtain ⟨xs, n, rfl, _, _, hxl, hx⟩ := DataW.trod_array Tryz.underlying59 hf
    have hc1 : Tryz.prog.cellsOf 5 = 1 := by kernel_rfl
    match xs, hxl with
    | [y0, y1], _ =>
    have h0 := hx 0 (by omega)
    have h1 := hx 1 (by omega)
    simp only [hc1, Nat.zero_mul, Nat.one_mul, List.drop, List.take] at h0 h1
    obtain ⟨a, e0, _, w0⟩ := DataW.trod_int Tryz.underlying5 h0
    obtain ⟨b, e1, _, w1⟩ := DataW.trod_int Tryz.underlying5 h1
    simp [Value.cells] at e0 e1
    subst e0 e1
    obtain ⟨a, rfl, ha⟩ := byte_nat w0
    obtain ⟨b, rfl, hb⟩ := byte_nat w1
    exact ⟨a, b, rfl, ha, hb⟩
end
end Go.Proofs.YtemejneabpjfhaaGreatDoor
