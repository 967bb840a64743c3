/- Contracts of functions and lemmas, used by the proofs of the given statements. No condition beyond those that each lemma names. -/
import Derived.Test.YtoiopnmphbnjaaaGreatDoorLinMk
import Derived.Test.YtoiopnmphbnjaaaGreatDoorJLinRow
import Derived.Test.YtoiopnmphbnjaaaGreatDoorJBase
import Derived.Test.YtoiopnmphbnjaaaGreatDoorJLinO
import Derived.OpenShut
namespace Go.Proofs.YtoiopnmphbnjaaaGreatDoor
set_option linter.unusedSimpArgs false
open Go.RowKit
set_option linter.unusedVariables false
/-! ## rows whose words lie in blocks of words -/
/-- base 0: the row's words lie in blocks of words; far: the row's block is a new one -/
def RetW (base n : Nat) (f : Nat → Rat) (e : Ending) (w : World) : Prop := ∃ A c, e = .returned (.slice A n c) ∧ OwR w 0 A c n (can f) ∧ ∀ q, (Value.slice A n c).ownBlock = some q → base ≤ q
theorem OwR.raise {w : World} {b c n : Nat} {A : Option Addr} {R : Nat → Rw} (h : OwR w 0 A c n R) (hf : ∀ q, (Value.slice A n c).ownBlock = some q → b ≤ q) : OwR w b A c n R := by
  obtain ⟨V, h1, h2⟩ := h
  refine ⟨V, fun k hk => (h1 k hk).base (Nat.zero_le _), h2.1, ?_⟩
  rcases h2.2 with h3 | ⟨g, cap, cur, e, hb, rest⟩
  · exact .inl h3
  · exact .inr ⟨g, cap, cur, e, hf g (by rw [e]; rfl), rest⟩
end Go.Proofs.YtoiopnmphbnjaaaGreatDoor
namespace Go.Proofs.YtoiopnmphbnjaaaGreatDoor
open Go.RowKit
set_option linter.unusedSimpArgs false
set_option linter.unusedVariables false
/-! ## what is neither a row of fractions nor of rows stays -/
def KT (w w' : World) : Prop := ∀ (k : Nat) (cur : Array Value) (e : TypeId) (fz : Nat × Nat), w.heap[k]? = some (.cells cur e fz) → e ≠ 56 → e ≠ 23 → w'.heap[k]? = w.heap[k]?
/-! ## lists of ints of a call's own -/
section
variable {w w1 w' : World} {base base' c b0 o co n i j g : Nat} {A : Option Addr} {l : List Nat} {len : Nat → Nat} {M : Nat → Nat → Rat}
/-! ## two rows change places -/
theorem MatX.head (h : MatX w b0 o co n i A c len M) (hi : i < n) (hl : 0 < len i) : ∃ g, A = some ⟨g, 0, none⟩ := (h.own hi).form hl
end
end Go.Proofs.YtoiopnmphbnjaaaGreatDoor
namespace Go.Proofs.YtoiopnmphbnjaaaGreatDoor
set_option linter.unusedSimpArgs false
open Go.ChangeShapes Go.WideShapes Go.ChangeAt Go.RowKit Go.Joins Go.Deep
set_option maxRecDepth 100000
set_option linter.unusedVariables false
/-! ## an int or a byte out of what a statement is handed -/
section
variable {H : Type} {enc : TypeId × Value → H} {W : World} {base : Nat}
theorem open_i64E {v : Value} {d : DataW H} {p : List MemPlace} (hv : Value.okWide Tryz.prog W .any base 3 v) (h : DataW.Trod enc Tryz.prog W 0 (fun _ => true) true 3 v d p) :
    ∃ x : Int, v = .int .i64 x ∧ IntKind.i64.wrap x = x := by
  obtain ⟨x, rfl, _, _, w⟩ := open_int Tryz.underlying3 hv h
  refine ⟨x, rfl, ?_⟩
  have h : -9223372036854775808 ≤ x ∧ x ≤ 9223372036854775807 := by simpa [Lit.wf, IntKind.min, IntKind.max, IntKind.signed, IntKind.bits] using w
  rw [IntKind.wrap_i64]
  omega
end
end Go.Proofs.YtoiopnmphbnjaaaGreatDoor
