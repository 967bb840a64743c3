/- Contracts of functions and lemmas, used by the proofs of the given statements. No condition beyond those that each lemma names. -/
import Derived.Test.YtoiopnmphbnjaaaGreatDoorOpenDy
namespace Go.Proofs.YtoiopnmphbnjaaaGreatDoor
set_option linter.unusedSimpArgs false
open Go.ChangeShapes Go.WideShapes Go.ChangeAt Go.RowKit Go.Joins Go.Deep
set_option maxRecDepth 100000
set_option linter.unusedVariables false
/-! ## a list of bytes out of what a statement is handed -/
/-- a list of bytes that is read -/
def BysA (w : World) (A : Option Addr) (n : Nat) (P : Nat → Nat) : Prop := ∀ k, k < n → ∃ b off, A = some ⟨b, off, none⟩ ∧ b < w.heap.size ∧ w.cell? ⟨b, off + k, none⟩ = some (.int .u8 ((P k : Nat) : Int)) ∧ P k < 256
section
variable {H : Type} {enc : TypeId × Value → H} {W : World} {base : Nat}
theorem open_bysC {fuel : Nat} {cs : List Value} {x : DataW H × List MemPlace} (h : DataW.trod enc Tryz.prog W 0 (fun _ => true) true fuel 51 cs = some x) :
    ∃ A n c P, cs = [.slice A n c] ∧ n ≤ c ∧ BysA W A n P := by
  rcases open_ints Tryz.underlying51 Tryz.underlying5 (by kernel_rfl) h with ⟨rfl, _⟩ | ⟨a, len, cap, zs, rfl, _, hl, hm, hz, _, hc, hw⟩
  · exact ⟨none, 0, 0, fun _ => 0, rfl, Nat.le_refl _, fun k hk => absurd hk (Nat.not_lt_zero _)⟩
  · simp only [if_true] at hz
    have hwz : ∀ z ∈ zs, 0 ≤ z ∧ z < 256 := fun z hz => by
      have := hw z hz
      simp [Lit.wf, IntKind.min, IntKind.max, IntKind.signed, IntKind.bits] at this
      omega
    refine ⟨some a, len, cap, fun j => (zs.getD j 0).toNat, rfl, hl, fun k hk => ?_⟩
    have h1 : zs[k]? = some (zs.getD k 0) := by rw [List.getD, List.getElem?_eq_getElem (by omega)]; rfl
    have h2 := hwz _ (List.mem_of_getElem? h1)
    have h0 : W.cell? (a.add 0) = some (.int .u8 (zs.getD 0 0)) := hc 0 (by omega)
    have hk0 : W.cell? (a.add k) = some (.int .u8 (zs.getD k 0)) := hc k (by omega)
    obtain ⟨b, off, rfl⟩ := spot_none h0
    rw [addr_add] at h0 hk0
    refine ⟨b, off, rfl, lt_of_cell h0, ?_, by show (zs.getD k 0).toNat < 256; omega⟩
    show _ = some (Value.int .u8 (((zs.getD k 0).toNat : Nat) : Int))
    rw [hk0, Int.toNat_of_nonneg h2.1]
theorem open_bysE {v : Value} {d : DataW H} {p : List MemPlace} (hv : Value.okWide Tryz.prog W .any base 51 v) (h : DataW.Trod enc Tryz.prog W 0 (fun _ => true) true 51 v d p) :
    ∃ A n c P, v = .slice A n c ∧ n ≤ c ∧ BysA W A n P := by
  obtain ⟨a0, len, cap, rfl⟩ := okWide_slice Tryz.underlying51 hv
  obtain ⟨fuel, hf⟩ := h
  obtain ⟨A, n, c, P, e, hc, hr⟩ := open_bysC hf
  simp [Value.cells] at e
  obtain ⟨rfl, rfl, rfl⟩ := e
  exact ⟨_, _, _, P, rfl, hc, hr⟩
end
end Go.Proofs.YtoiopnmphbnjaaaGreatDoor
