/- Contracts of functions and lemmas, used by the proofs of the given statements. No condition beyond those that each lemma names. -/
import Derived.Test.YtoiopnmphbnjaaaGreatDoorJLinO
namespace Go.Proofs.YtoiopnmphbnjaaaGreatDoor
set_option linter.unusedSimpArgs false
open Go.ChangeShapes Go.WideShapes Go.ChangeAt Go.RowKit Go.Joins Go.Deep
set_option maxRecDepth 100000
set_option linter.unusedVariables false
/-! ## a chain that came in, with a bound of its length -/
section
variable {H : Type} {enc : TypeId × Value → H} {W : World} {base : Nat}
theorem open_movesN {fuel : Nat} {A : Option Addr} {n c : Nat} {x : DataW H × List MemPlace} (h : DataW.trod enc Tryz.prog W 0 (fun _ => true) true fuel 29 [.slice A n c] = some x) : n ≤ maxLen := by
  rcases open_slice Tryz.underlying29 h with ⟨e, _⟩ | ⟨a, len, cap, m, n', D, Pl, e, _, hl, hm, _⟩
  · simp at e
    omega
  · simp at e
    omega
theorem open_chainL {v : Value} {d : DataW H} {p : List MemPlace} (hv : Value.okWide Tryz.prog W .any base 32 v) (h : DataW.Trod enc Tryz.prog W 0 (fun _ => true) true 32 v d p) :
    ∃ AM cm AD cd c, v = cv c.st c.sr AM c.nm cm AD c.nd cd ∧ ChI W W.heap.size AM cm AD cd c ∧ c.nm ≤ maxLen := by
  obtain ⟨v0, v1, v2, v3, y0, y1, y2, y3, n, rfl, _, _, h0, h1, h2, h3⟩ := open_agg4 Tryz.underlying32 (by kernel_rfl) (by kernel_rfl) hv h
  obtain ⟨st, e0, _, _⟩ := DataW.trod_int Tryz.underlying3 h0
  obtain ⟨sr, e1, _, _⟩ := DataW.trod_int Tryz.underlying3 h1
  obtain ⟨AM, nm, cm, F, T, R, e2, hcm, hM⟩ := open_movesC h2
  obtain ⟨AD, nd, cd, D, e3, hcd, hD, hDb⟩ := open_boolsC h3
  simp at e0 e1 e2 e3
  subst e0 e1 e2 e3
  exact ⟨AM, cm, AD, cd, ⟨st, sr, nm, F, T, R, nd, D⟩, rfl, ⟨hM, hD, hDb, hcm, hcd⟩, open_movesN h2⟩
end
end Go.Proofs.YtoiopnmphbnjaaaGreatDoor
