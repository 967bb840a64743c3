/- Contracts of functions and lemmas, used by the proofs of the given statements. No condition beyond those that each lemma names. -/
import Derived.Test.YtedopalmfakeaaaCubeDef
import Derived.ProofKit
import Derived.Lib.SmallJoins
import Derived.Deep.SlicePairs
namespace Go.Proofs.Ytedopalmfakeaaa
open Go.ChangeShapes Go.WideShapes Go.ChangeAt Go.RowKit Go.Joins Go.Deep
set_option maxRecDepth 100000
theorem laidOut : laidOutB Try.prog = true := by kernel_rfl
theorem cells_cube : Try.prog.cellsOf 23 = 2 := by kernel_rfl
section
variable {H : Type} {enc : TypeId × Value → H} {W : World} {base : Nat}
theorem open_intE {v : Value} {d : DataW H} {p : List MemPlace} (hv : Value.okWide Try.prog W .any base 3 v) (h : DataW.Trod enc Try.prog W 0 (fun _ => true) true 3 v d p) :
    ∃ x : Int, v = .int .i64 x ∧ (-9223372036854775808 ≤ x ∧ x ≤ 9223372036854775807) := by
  obtain ⟨x, rfl, _, _, w⟩ := open_int Try.underlying3 hv h
  exact ⟨x, rfl, by simpa [Lit.wf, IntKind.min, IntKind.max, IntKind.signed, IntKind.bits] using w⟩
theorem open_cubeE {v : Value} {d : DataW H} {p : List MemPlace} (hv : Value.okWide Try.prog W .any base 23 v) (h : DataW.Trod enc Try.prog W 0 (fun _ => true) true 23 v d p) :
    ∃ y n : Int, v = .agg #[.int .i64 y, .int .i64 n] := by
  obtain ⟨c0, c1, y0, y1, m, rfl, _, _, hy0, hy1⟩ := open_agg2 Try.underlying23 (by kernel_rfl) cells_cube hv h
  obtain ⟨a, e0, _, _⟩ := DataW.trod_int Try.underlying3 hy0
  obtain ⟨b, e1, _, _⟩ := DataW.trod_int Try.underlying3 hy1
  simp at e0 e1
  subst e0 e1
  exact ⟨a, b, rfl⟩
theorem choose_list {α : Type} {n : Nat} {Q : Nat → α → Prop} (h : ∀ i, i < n → ∃ x, Q i x) : ∃ l : List α, l.length = n ∧ ∀ i x, l[i]? = some x → Q i x := by
  induction n with
  | zero => exact ⟨[], rfl, by simp⟩
  | succ n ih =>
    obtain ⟨l, hl, hq⟩ := ih fun i hi => h i (by omega)
    obtain ⟨x, hx⟩ := h n (by omega)
    refine ⟨l ++ [x], by simp [hl], fun i y hy => ?_⟩
    rw [List.getElem?_append] at hy
    split at hy
    · exact hq i y hy
    · have : i = n := by
        have := (List.getElem?_eq_some_iff.1 hy).1
        simp at this
        omega
      subst this
      simp [hl] at hy
      subst hy
      exact hx
theorem cells_of_cubes {w : World} {b off : Nat} {l : List Cb} (h : ∀ i c, l[i]? = some c → w.cell? ⟨b, off + i * 2, none⟩ = some (.int .i64 c.1) ∧ w.cell? ⟨b, off + (i * 2 + 1), none⟩ = some (.int .i64 c.2)) :
    ∀ j u, (cbs l)[j]? = some u → w.cell? ⟨b, off + j, none⟩ = some u := by
  intro j u hu
  have hj : j < l.length * 2 := by
    have := (List.getElem?_eq_some_iff.1 hu).1
    rwa [cbs_length] at this
  have hk : j / 2 < l.length := by omega
  have hc := List.getElem?_eq_getElem hk
  have g := cbs_get l (j / 2) _ hc
  have hh := h _ _ hc
  rcases Nat.mod_two_eq_zero_or_one j with h0 | h1
  · have e : j / 2 * 2 = j := by omega
    rw [e] at g hh
    rw [g.1] at hu
    injection hu with hu
    subst hu
    exact hh.1
  · have e : j / 2 * 2 + 1 = j := by omega
    rw [e] at g hh
    rw [g.2] at hu
    injection hu with hu
    subst hu
    exact hh.2
theorem open_cubesE {v : Value} {d : DataW H} {p : List MemPlace} (hv : Value.okWide Try.prog W .any base 35 v) (h : DataW.Trod enc Try.prog W 0 (fun _ => true) true 35 v d p) (_lt : ∀ x ∈ p, x.block < W.heap.size) :
    ∃ A l c, v = .slice A (List.length l) c ∧ RdC W W.heap.size A l ∧ l.length ≤ 9223372036854775807 ∧ l.length ≤ c := by
  obtain ⟨a0, len, cap, rfl⟩ := okWide_slice Try.underlying35 hv
  obtain ⟨fuel, hf⟩ := h
  rcases open_slice_pairs Try.underlying35 Try.underlying23 cells_cube rfl rfl (by kernel_rfl) (by kernel_rfl) hf with ⟨hcs, _⟩ | ⟨a, len', cap', m, n, V0, V1, D0, D1, P0, P1, hcs, _, hl, hm, hmm, hx, hi⟩
  · simp [Value.cells] at hcs
    obtain ⟨rfl, rfl, rfl⟩ := hcs
    exact ⟨none, [], 0, rfl, RdC.nil_ _ _ _, by simp, by simp⟩
  · simp [Value.cells] at hcs
    obtain ⟨rfl, rfl, rfl⟩ := hcs
    obtain ⟨l, hll, hlq⟩ := choose_list (n := len) (Q := fun i c => W.cell? (a.add (i * 2)) = some (.int .i64 (Prod.fst c)) ∧ W.cell? (a.add (i * 2 + 1)) = some (.int .i64 (Prod.snd c))) (fun i hlt => by
      have hlm : i < m := by rw [hmm]; split <;> omega
      obtain ⟨g0, g1, g2, g3⟩ := hi i hlm
      obtain ⟨x, e0, _, _⟩ := DataW.trod_int Try.underlying3 g2
      obtain ⟨y, e1, _, _⟩ := DataW.trod_int Try.underlying3 g3
      simp at e0 e1
      rw [e0] at g0
      rw [e1] at g1
      exact ⟨(x, y), g0, g1⟩)
    subst hll
    refine ⟨some a, l, cap, rfl, ⟨cbs_length l, fun hn => ?_⟩, by simp only [maxLen] at hm; omega, hl⟩
    obtain ⟨b, off, spot⟩ := a
    have h0 := (hlq 0 l[0] (List.getElem?_eq_getElem hn)).1
    have hspot : spot = none := by
      have := World.cell?_spot h0
      simpa [Addr.add] using this
    subst hspot
    refine ⟨b, off, rfl, ?_, cells_of_cubes fun i c hc => ?_⟩
    · simp only [Nat.zero_mul, addr_add] at h0
      exact lt_of_cell h0
    · have := hlq i c hc
      simpa only [addr_add] using this
end
end Go.Proofs.Ytedopalmfakeaaa
