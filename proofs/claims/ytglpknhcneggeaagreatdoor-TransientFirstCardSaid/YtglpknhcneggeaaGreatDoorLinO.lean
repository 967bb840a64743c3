/- Contracts of functions and lemmas, used by the proofs of the given statements. No condition beyond those that each lemma names. -/
import Derived.Test.YtglpknhcneggeaaGreatDoorJLinA0
import Derived.ProofKit
import Derived.Lib.SmallJoins
import Derived.Deep.SlicePairs
import Derived.Deep.Slices
import Derived.Deep.Strs
import Derived.ChangeSlices
namespace Go.Proofs.YtglpknhcneggeaaGreatDoor
set_option linter.unusedSimpArgs false
open Go.ChangeShapes Go.WideShapes Go.ChangeAt Go.RowKit Go.Joins Go.Deep
set_option maxRecDepth 100000
set_option linter.unusedVariables false
/-! ## a matrix and a vector out of what a statement is handed -/
theorem laidOut : laidOutB Tryz.prog = true := by kernel_rfl
section
variable {H : Type} {enc : TypeId × Value → H} {W : World} {base : Nat}
theorem spot_none {a : Addr} {v : Value} (h : W.cell? (a.add 0) = some v) : ∃ b off, a = ⟨b, off, none⟩ := by
  obtain ⟨b, off, spot⟩ := a
  have : spot = none := by
    have := World.cell?_spot h
    simpa [Addr.add] using this
  subst this
  exact ⟨b, off, rfl⟩
theorem open_wordsC {fuel : Nat} {cs : List Value} {x : DataW H × List MemPlace} (h : DataW.trod enc Tryz.prog W 0 (fun _ => true) true fuel 26 cs = some x) :
    ∃ A c l, cs = [.slice A (List.length l) c] ∧ l.length ≤ c ∧ W32 l ∧ RdW W W.heap.size A l := by
  rcases open_ints Tryz.underlying26 Tryz.underlying74 (by kernel_rfl) h with ⟨rfl, _⟩ | ⟨a, len, cap, zs, rfl, _, hl, hm, hz, _, hc, hw⟩
  · exact ⟨none, 0, [], rfl, Nat.le_refl _, by intro x hx; simp at hx, Rds.nil_ _ _ _ _⟩
  · simp only [if_true] at hz
    have hwz : ∀ z ∈ zs, 0 ≤ z ∧ z < 4294967296 := fun z hz => by
      have := hw z hz
      simp [Lit.wf, IntKind.min, IntKind.max, IntKind.signed, IntKind.bits] at this
      omega
    obtain ⟨l, hl0⟩ : ∃ l, l = (zs.take len).map Int.toNat := ⟨_, rfl⟩
    have hll : l.length = len := by rw [hl0]; simp; omega
    have hcell : ∀ j, j < len → ∀ u, l[j]? = some u → W.cell? (a.add j) = some (.int .u32 (u : Int)) := by
      intro j hj u hu
      rw [hc j (by omega)]
      have h1 : zs[j]? = some (zs.getD j 0) := by rw [List.getD, List.getElem?_eq_getElem (by omega)]; rfl
      rw [hl0, List.getElem?_map, List.getElem?_take_of_lt hj, h1] at hu
      simp only [Option.map_some, Option.some.injEq] at hu
      have := hwz _ (List.mem_of_getElem? h1)
      rw [← hu, Int.toNat_of_nonneg this.1]
    refine ⟨some a, cap, l, by rw [hll], by omega, ?_, ?_⟩
    · intro x hx
      rw [hl0] at hx
      obtain ⟨z, hz1, rfl⟩ := List.mem_map.1 hx
      have := hwz z (List.mem_of_mem_take hz1)
      omega
    · refine ⟨by simp [wds], fun hn => ?_⟩
      have h0 := hcell 0 (by omega) _ (List.getElem?_eq_getElem hn)
      obtain ⟨b, off, rfl⟩ := spot_none h0
      refine ⟨b, off, rfl, ?_, fun j u hu => ?_⟩
      · rw [addr_add] at h0; exact lt_of_cell h0
      · simp only [wds, List.getElem?_map] at hu
        obtain ⟨y, hy, rfl⟩ := Option.map_eq_some_iff.1 hu
        have := hcell j (by have := (List.getElem?_eq_some_iff.1 hy).1; omega) y hy
        rwa [addr_add] at this
theorem open_ratC {fuel : Nat} {cs : List Value} {x : DataW H × List MemPlace} (h : DataW.trod enc Tryz.prog W 0 (fun _ => true) true fuel 28 cs = some x) :
    ∃ s A n c B m d r, cs = [.bool s, .slice A n c, .slice B m d] ∧ RdR W (rv s A n c B m d) r := by
  obtain ⟨y0, y1, y2, n, _, hl, h0, h1, h2⟩ := trod_struct3 Tryz.underlying28 h
  have hc3 : Tryz.prog.cellsOf 28 = 3 := by kernel_rfl
  have hc1 : Tryz.prog.cellsOf 4 = 1 := by kernel_rfl
  have hc2 : Tryz.prog.cellsOf 26 = 1 := by kernel_rfl
  rw [hc3] at hl
  match cs, hl with
  | [v0, v1, v2], _ =>
    simp only [hc1, hc2, List.drop, List.take] at h0 h1 h2
    obtain ⟨s, e0, _⟩ := DataW.trod_bool Tryz.underlying4 h0
    obtain ⟨A, c, l, e1, hlc, hW, hR⟩ := open_wordsC h1
    obtain ⟨B, d, m, e2, hmd, hW', hR'⟩ := open_wordsC h2
    simp at e0 e1 e2
    subst e0 e1 e2
    exact ⟨s, A, l.length, c, B, m.length, d, (s, l, m), rfl, A, c, B, d, rfl, hlc, hmd, ⟨hW, hW'⟩, hR, hR'⟩
theorem addr_add_add (a : Addr) (i t : Nat) : (a.add i).add t = a.add (i + t) := by
  unfold Addr.add
  by_cases hi : i = 0
  · subst hi; simp
  · by_cases ht : t = 0
    · subst ht; simp [hi]
    · have : ¬ i + t = 0 := by omega
      simp [hi, ht, this, Nat.add_assoc]
theorem isR_rv (s : Bool) (A : Option Addr) (n c : Nat) (B : Option Addr) (m d : Nat) : isR (rv s A n c B m d) := ⟨s, A, n, c, B, m, d, rfl⟩
theorem open_rowC {fuel : Nat} {cs : List Value} {x : DataW H × List MemPlace} (h : DataW.trod enc Tryz.prog W 0 (fun _ => true) true fuel 32 cs = some x) :
    ∃ A n c R, cs = [.slice A n c] ∧ n ≤ c ∧ RowI W W.heap.size A n R := by
  rcases open_slice Tryz.underlying32 h with ⟨rfl, _⟩ | ⟨a, len, cap, m, n, D, Pl, rfl, _, hl, hm, hmm, _, hx⟩
  · exact ⟨none, 0, 0, fun _ => canR 0, rfl, Nat.le_refl _, fun _ => .nilIface, fun _ h => by omega, Rds.nil_ _ _ _ _, fun h => by omega⟩
  · simp only [if_true] at hmm
    have hc3 : Tryz.prog.cellsOf 28 = 3 := by kernel_rfl
    rw [hc3] at hx
    have hall : ∀ i, ∃ q : Value × Rw, i < len → RdR W q.1 q.2 ∧ isR q.1 ∧ ∀ t, t < 3 → W.cell? (a.add (i * 3 + t)) = (c3 q.1)[t]? := by
      intro i
      by_cases hi : i < len
      · obtain ⟨cs', g1, g2⟩ := hx i (by omega)
        obtain ⟨s, A, n', c, B, m', d, r, rfl, hr⟩ := open_ratC g2
        obtain ⟨_, _, g3⟩ := World.cells?_some g1
        exact ⟨(rv s A n' c B m' d, r), fun _ => ⟨hr, isR_rv _ _ _ _ _ _ _, fun t ht => by
          have := g3 t ht
          rw [addr_add_add] at this
          exact this⟩⟩
      · exact ⟨(.nilIface, canR 0), fun h => absurd h hi⟩
    obtain ⟨f, hf⟩ := Classical.axiomOfChoice hall
    refine ⟨some a, len, cap, fun i => (f i).2, rfl, hl, fun i => (f i).1, fun k hk => RdS.of_in (hf k hk).1, ⟨cellsV_length fun k hk => (hf k hk).2.1, fun hn => ?_⟩, fun hn b hb => ?_⟩
    all_goals
      have h0 := (hf 0 hn).2.2 0 (by omega)
      obtain ⟨s0, A0, n0, c0, B0, m0, d0, e0⟩ := (hf 0 hn).2.1
      rw [e0] at h0
      simp only [Nat.zero_mul, Nat.add_zero] at h0
      replace h0 : W.cell? (a.add 0) = some (.bool s0) := h0
      obtain ⟨b1, off, rfl⟩ := spot_none h0
      rw [addr_add] at h0
    · refine ⟨b1, off, rfl, lt_of_cell h0, fun j u hu => ?_⟩
      have hj : j < len * 3 := by
        have := (List.getElem?_eq_some_iff.1 hu).1
        rwa [cellsV_length fun k hk => (hf k hk).2.1] at this
      have hk : j / 3 < len := by omega
      obtain ⟨s1, A1, n1, c1, B1, m1, d1, e1⟩ := (hf _ hk).2.1
      obtain ⟨g0, g1, g2⟩ := cellsV_get (V := fun i => (f i).1) (fun k hk => (hf k hk).2.1) hk e1
      have ht := (hf _ hk).2.2 (j % 3) (Nat.mod_lt _ (by omega))
      rw [e1] at ht
      have e : j = j / 3 * 3 + j % 3 := by omega
      rw [← e, addr_add] at ht
      rw [ht]
      rcases (show j % 3 = 0 ∨ j % 3 = 1 ∨ j % 3 = 2 by omega) with h3 | h3 | h3 <;> rw [h3] at e ⊢ <;> rw [e] at hu
      · rw [Nat.add_zero, g0] at hu; exact hu
      · rw [g1] at hu; exact hu
      · rw [g2] at hu; exact hu
    · injection hb with hb
      subst hb
      exact lt_of_cell h0
theorem open_matC {fuel : Nat} {cs : List Value} {x : DataW H × List MemPlace} (h : DataW.trod enc Tryz.prog W 0 (fun _ => true) true fuel 77 cs = some x) :
    ∃ A n c len R, cs = [.slice A n c] ∧ n ≤ c ∧ MatI W W.heap.size A n len R := by
  rcases open_slice1 Tryz.underlying77 (by kernel_rfl) h with ⟨rfl, _⟩ | ⟨a, len, cap, m, n, V, D, Pl, rfl, _, hl, hm, hmm, _, hx⟩
  · exact ⟨none, 0, 0, fun _ => 0, fun _ _ => canR 0, rfl, Nat.le_refl _, fun _ => none, fun _ => 0, Rds.nil_ _ _ _ _, fun h => by omega, fun i hi => by omega⟩
  · simp only [if_true] at hmm
    have hall : ∀ i, ∃ q : Option Addr × Nat × Nat × (Nat → Rw), i < len → V i = .slice q.1 q.2.1 q.2.2.1 ∧ q.2.1 ≤ q.2.2.1 ∧ RowI W W.heap.size q.1 q.2.1 q.2.2.2 := by
      intro i
      by_cases hi : i < len
      · obtain ⟨A, n', c, R, e, h1, h2⟩ := open_rowC (hx i (by omega)).2
        exact ⟨(A, n', c, R), fun _ => ⟨by simpa using e, h1, h2⟩⟩
      · exact ⟨(none, 0, 0, fun _ => canR 0), fun h => absurd h hi⟩
    obtain ⟨f, hf⟩ := Classical.axiomOfChoice hall
    refine ⟨some a, len, cap, fun i => (f i).2.1, fun i => (f i).2.2.2, rfl, hl, fun i => (f i).1, fun i => (f i).2.2.1, ⟨by rw [rowsC_length, Nat.mul_one], fun hn => ?_⟩, fun hn b hb => ?_, fun i hi => (hf i hi).2⟩
    all_goals
      have h0 := (hx 0 (by omega)).1
      obtain ⟨b1, off, rfl⟩ := spot_none h0
      rw [addr_add] at h0
    · refine ⟨b1, off, rfl, lt_of_cell h0, fun j u hu => ?_⟩
      have hj : j < len := by
        have := (List.getElem?_eq_some_iff.1 hu).1
        rwa [rowsC_length] at this
      rw [rowsC_get hj] at hu
      have := (hx j (by omega)).1
      rw [addr_add, (hf j hj).1] at this
      rw [this]; exact hu
    · injection hb with hb
      subst hb
      exact lt_of_cell h0
theorem open_vecE {v : Value} {d : DataW H} {p : List MemPlace} (hv : Value.okWide Tryz.prog W .any base 32 v) (h : DataW.Trod enc Tryz.prog W 0 (fun _ => true) true 32 v d p) :
    ∃ A n c R, v = .slice A n c ∧ n ≤ c ∧ RowI W W.heap.size A n R := by
  obtain ⟨a0, len, cap, rfl⟩ := okWide_slice Tryz.underlying32 hv
  obtain ⟨fuel, hf⟩ := h
  obtain ⟨A, n, c, R, e, h1, h2⟩ := open_rowC hf
  simp [Value.cells] at e
  obtain ⟨rfl, rfl, rfl⟩ := e
  exact ⟨_, _, _, R, rfl, h1, h2⟩
theorem open_matE {v : Value} {d : DataW H} {p : List MemPlace} (hv : Value.okWide Tryz.prog W .any base 77 v) (h : DataW.Trod enc Tryz.prog W 0 (fun _ => true) true 77 v d p) :
    ∃ A n c len R, v = .slice A n c ∧ n ≤ c ∧ MatI W W.heap.size A n len R := by
  obtain ⟨a0, len, cap, rfl⟩ := okWide_slice Tryz.underlying77 hv
  obtain ⟨fuel, hf⟩ := h
  obtain ⟨A, n, c, l, R, e, h1, h2⟩ := open_matC hf
  simp [Value.cells] at e
  obtain ⟨rfl, rfl, rfl⟩ := e
  exact ⟨_, _, _, l, R, rfl, h1, h2⟩
end
end Go.Proofs.YtglpknhcneggeaaGreatDoor
