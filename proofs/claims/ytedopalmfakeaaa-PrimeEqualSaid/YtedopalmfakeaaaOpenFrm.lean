/- Contracts of functions and lemmas, used by the proofs of the given statements. No condition beyond those that each lemma names. -/
import Derived.Test.YtedopalmfakeaaaOpen
import Derived.Test.YtedopalmfakeaaaJCubeCnt
import Derived.Deep.Slices
import Derived.Deep.Strs
import Derived.ChangeSlices
import Derived.OpenShut
namespace Go.Proofs.Ytedopalmfakeaaa
set_option linter.unusedSimpArgs false
open Go.ChangeShapes Go.WideShapes Go.ChangeAt Go.RowKit Go.Joins Go.Deep
set_option maxRecDepth 100000
set_option linter.unusedVariables false
/-! ## a formula out of what a statement is handed -/
section
variable {H : Type} {enc : TypeId × Value → H} {W : World} {base : Nat}
theorem spotF {a : Addr} {v : Value} (h : W.cell? (a.add 0) = some v) : ∃ b off, a = ⟨b, off, none⟩ := by
  obtain ⟨b, off, spot⟩ := a
  have : spot = none := by
    have := World.cell?_spot h
    simpa [Addr.add] using this
  subst this
  exact ⟨b, off, rfl⟩
theorem addF (a : Addr) (i t : Nat) : (a.add i).add t = a.add (i + t) := by
  unfold Addr.add
  by_cases hi : i = 0
  · subst hi; simp
  · by_cases ht : t = 0
    · subst ht; simp [hi]
    · have : ¬ i + t = 0 := by omega
      simp [hi, ht, this, Nat.add_assoc]
theorem open_zilC {fuel : Nat} {cs : List Value} {x : DataW H × List MemPlace} (h : DataW.trod enc Try.prog W 0 (fun _ => true) true fuel 71 cs = some x) :
    ∃ A c l, cs = [.slice A (List.length l) c] ∧ Rds W W.heap.size 1 A l.length (zil l) := by
  rcases open_ints Try.underlying71 Try.underlying3 (by kernel_rfl) h with ⟨rfl, _⟩ | ⟨a, len, cap, zs, rfl, _, hl, hm, hz, _, hc, hw⟩
  · exact ⟨none, 0, [], rfl, Rds.nil_ _ _ _ _⟩
  · simp only [if_true] at hz
    have hlen : (zs.take len).length = len := by rw [List.length_take]; omega
    refine ⟨some a, cap, zs.take len, by rw [hlen], by rw [zil_length, Nat.mul_one], fun hn => ?_⟩
    rw [hlen] at hn
    have hcell : ∀ j, j < len → W.cell? (a.add j) = some (.int .i64 (zs.getD j 0)) := fun j hj => hc j (by omega)
    have h0 := hcell 0 (by omega)
    obtain ⟨b, off, rfl⟩ := spotF h0
    refine ⟨b, off, rfl, ?_, fun j u hu => ?_⟩
    · rw [addr_add] at h0; exact lt_of_cell h0
    · have hj : j < len := by
        have := (List.getElem?_eq_some_iff.1 hu).1
        rwa [zil_length, hlen] at this
      have hjz : j < zs.length := by omega
      rw [zil_get (by rw [hlen]; exact hj)] at hu
      have h1 := hcell j hj
      rw [addr_add] at h1
      rw [h1, ← hu, List.getD_eq_getElem?_getD, List.getElem?_eq_getElem hjz]
      simp
theorem open_nodeC {fuel : Nat} {cs : List Value} {x : DataW H × List MemPlace} (h : DataW.trod enc Try.prog W 0 (fun _ => true) true fuel 73 cs = some x) :
    ∃ (k q : Int) (A : Option Addr) (c : Nat) (l : List Int), cs = [.int .i64 k, .int .i64 q, .slice A l.length c] ∧ Rds W W.heap.size 1 A l.length (zil l) := by
  obtain ⟨y0, y1, y2, n, _, hl, h0, h1, h2⟩ := trod_struct3 Try.underlying73 h
  have hc3 : Try.prog.cellsOf 73 = 3 := by kernel_rfl
  have hc1 : Try.prog.cellsOf 3 = 1 := by kernel_rfl
  have hcs : Try.prog.cellsOf 71 = 1 := by kernel_rfl
  rw [hc3] at hl
  match cs, hl with
  | [v0, v1, v2], _ =>
    simp only [hc1, hcs, List.drop, List.take] at h0 h1 h2
    obtain ⟨k, e0, _, _⟩ := DataW.trod_int Try.underlying3 h0
    obtain ⟨q, e1, _, _⟩ := DataW.trod_int Try.underlying3 h1
    obtain ⟨A, c, l, e2, hr⟩ := open_zilC h2
    simp at e0 e1 e2
    subst e0 e1 e2
    exact ⟨k, q, A, c, l, rfl, hr⟩
theorem open_nodesC {fuel : Nat} {cs : List Value} {x : DataW H × List MemPlace} (h : DataW.trod enc Try.prog W 0 (fun _ => true) true fuel 64 cs = some x) (vr tp : Int) :
    ∃ A c f, cs = [.slice A (FrR.nn f) c] ∧ f.vars = vr ∧ f.top = tp ∧ FrI W A f := by
  rcases open_slice Try.underlying64 h with ⟨rfl, _⟩ | ⟨a, len, cap, m, n, D, Pl, rfl, _, hl, hm, hmm, _, hx⟩
  · exact ⟨none, 0, ⟨vr, 0, fun _ => 0, fun _ => 0, fun _ => [], tp⟩, rfl, rfl, rfl, fun _ => (none, 0), Rds.nil_ _ _ _ _, fun k hk => absurd hk (Nat.not_lt_zero k)⟩
  · simp only [if_true] at hmm
    have hc3 : Try.prog.cellsOf 73 = 3 := by kernel_rfl
    rw [hc3] at hx
    have hall : ∀ i, ∃ q : Int × Int × (Option Addr × Nat) × List Int, i < len → Rds W W.heap.size 1 q.2.2.1.1 q.2.2.2.length (zil q.2.2.2) ∧ ∀ t, t < 3 → W.cell? (a.add (i * 3 + t)) = (nodC q.1 q.2.1 q.2.2.1.1 q.2.2.2.length q.2.2.1.2)[t]? := by
      intro i
      by_cases hi : i < len
      · obtain ⟨cs', g1, g2⟩ := hx i (by omega)
        obtain ⟨k, q, A, c, l, rfl, hr⟩ := open_nodeC g2
        obtain ⟨_, _, g3⟩ := World.cells?_some g1
        exact ⟨(k, q, (A, c), l), fun _ => ⟨hr, fun t ht => by
          have := g3 t ht
          rw [addF] at this
          exact this⟩⟩
      · exact ⟨(0, 0, (none, 0), []), fun h => absurd h hi⟩
    obtain ⟨f, hf⟩ := Classical.axiomOfChoice hall
    refine ⟨some a, cap, ⟨vr, len, fun i => (f i).1, fun i => (f i).2.1, fun i => (f i).2.2.2, tp⟩, rfl, rfl, rfl, fun i => (f i).2.2.1, ⟨nodsC_length _ _ _, fun hn => ?_⟩, fun k hk => (hf k hk).1⟩
    have hn' : 0 < len := hn
    have h0 := (hf 0 hn').2 0 (by omega)
    simp only [Nat.zero_mul, Nat.add_zero] at h0
    replace h0 : W.cell? (a.add 0) = some (.int .i64 (f 0).1) := h0
    obtain ⟨b, off, rfl⟩ := spotF h0
    rw [addr_add] at h0
    refine ⟨b, off, rfl, lt_of_cell h0, fun j u hu => ?_⟩
    have hj : j < len * 3 := by
      have := (List.getElem?_eq_some_iff.1 hu).1
      rwa [nodsC_length] at this
    have hk : j / 3 < len := by omega
    obtain ⟨g0, g1, g2⟩ := nodsC_get (⟨vr, len, fun i => (f i).1, fun i => (f i).2.1, fun i => (f i).2.2.2, tp⟩ : FrR) (fun i => (f i).2.2.1) hk
    have ht := (hf _ hk).2 (j % 3) (Nat.mod_lt _ (by omega))
    have e : j = j / 3 * 3 + j % 3 := by omega
    rw [← e, addr_add] at ht
    rw [ht]
    rcases (show j % 3 = 0 ∨ j % 3 = 1 ∨ j % 3 = 2 by omega) with h3 | h3 | h3 <;> rw [h3] at e ⊢ <;> rw [e] at hu
    · rw [Nat.add_zero, g0] at hu; exact hu
    · rw [g1] at hu; exact hu
    · rw [g2] at hu; exact hu
theorem open_frmE {v : Value} {d : DataW H} {p : List MemPlace} (hv : Value.okWide Try.prog W .any base 66 v) (h : DataW.Trod enc Try.prog W 0 (fun _ => true) true 66 v d p) :
    ∃ A c f, v = fv (FrR.vars f) A f.nn c f.top ∧ FrI W A f ∧ f.top ≤ 9223372036854775807 ∧ -9223372036854775808 ≤ f.vars ∧ f.vars ≤ 9223372036854775807 := by
  obtain ⟨v0, v1, v2, y0, y1, y2, n, rfl, _, _, h0, h1, h2⟩ := open_agg3 Try.underlying66 (by kernel_rfl) (by kernel_rfl) hv h
  obtain ⟨vr, e0, _, w0⟩ := DataW.trod_int Try.underlying3 h0
  obtain ⟨tp, e2, _, w2⟩ := DataW.trod_int Try.underlying3 h2
  obtain ⟨A, c, f, e1, hvr, htp, hF⟩ := open_nodesC h1 vr tp
  simp at e0 e1 e2
  subst e0 e1 e2 hvr htp
  have w0' : -9223372036854775808 ≤ f.vars ∧ f.vars ≤ 9223372036854775807 := by simpa [Lit.wf, IntKind.min, IntKind.max, IntKind.signed, IntKind.bits] using w0
  have w2' : -9223372036854775808 ≤ f.top ∧ f.top ≤ 9223372036854775807 := by simpa [Lit.wf, IntKind.min, IntKind.max, IntKind.signed, IntKind.bits] using w2
  exact ⟨A, c, f, rfl, hF, w2'.2, w0'⟩
end
end Go.Proofs.Ytedopalmfakeaaa
