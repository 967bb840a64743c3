/- Contracts of functions and lemmas, used by the proofs of the given statements. No condition beyond those that each lemma names. -/
import Derived.Test.YtglpknhcneggeaaGreatDoorLinO
import Derived.Test.YtglpknhcneggeaaGreatDoorChM
import Derived.Deep.Grids
import Derived.OpenShut
namespace Go.Proofs.YtglpknhcneggeaaGreatDoor
set_option linter.unusedSimpArgs false
open Go.ChangeShapes Go.WideShapes Go.ChangeAt Go.RowKit Go.Joins Go.Deep
set_option maxRecDepth 100000
set_option linter.unusedVariables false
/-! ## a chain and a fraction out of what a statement is handed -/
section
variable {H : Type} {enc : TypeId × Value → H} {W : World} {base : Nat}
theorem open_ratE {v : Value} {d : DataW H} {p : List MemPlace} (hv : Value.okWide Tryz.prog W .any base 28 v) (h : DataW.Trod enc Tryz.prog W 0 (fun _ => true) true 28 v d p) :
    ∃ r, RdS W W.heap.size v r := by
  obtain ⟨cs, rfl, hsz⟩ := okWide_struct Tryz.underlying28 hv
  obtain ⟨fuel, hf⟩ := h
  obtain ⟨s, A, n, c, B, m, d', r, e, hr⟩ := open_ratC hf
  have hc : cs = #[.bool s, .slice A n c, .slice B m d'] := by
    obtain ⟨l⟩ := cs
    simpa [Value.cells] using e
  subst hc
  exact ⟨r, RdS.of_in hr⟩
theorem open_moveC {fuel : Nat} {cs : List Value} {x : DataW H × List MemPlace} (h : DataW.trod enc Tryz.prog W 0 (fun _ => true) true fuel 47 cs = some x) :
    ∃ (f t : Int) (s : Bool) (A : Option Addr) (n c : Nat) (B : Option Addr) (m d : Nat) (r : Rw), cs = [.int .i64 f, .int .i64 t, .bool s, .slice A n c, .slice B m d] ∧ RdR W (rv s A n c B m d) r := by
  obtain ⟨y0, y1, y2, n, _, hl, h0, h1, h2⟩ := trod_struct3 Tryz.underlying47 h
  have hc5 : Tryz.prog.cellsOf 47 = 5 := by kernel_rfl
  have hc1 : Tryz.prog.cellsOf 3 = 1 := by kernel_rfl
  have hc3 : Tryz.prog.cellsOf 28 = 3 := by kernel_rfl
  rw [hc5] at hl
  match cs, hl with
  | [v0, v1, v2, v3, v4], _ =>
    simp only [hc1, hc3, List.drop, List.take] at h0 h1 h2
    obtain ⟨f, e0, _, _⟩ := DataW.trod_int Tryz.underlying3 h0
    obtain ⟨t, e1, _, _⟩ := DataW.trod_int Tryz.underlying3 h1
    obtain ⟨s, A, n', c, B, m, d, r, e2, hr⟩ := open_ratC h2
    simp at e0 e1 e2
    obtain ⟨rfl, rfl, rfl⟩ := e2
    subst e0 e1
    exact ⟨f, t, s, A, n', c, B, m, d, r, rfl, hr⟩
theorem open_movesC {fuel : Nat} {cs : List Value} {x : DataW H × List MemPlace} (h : DataW.trod enc Tryz.prog W 0 (fun _ => true) true fuel 22 cs = some x) :
    ∃ A n c F T R, cs = [.slice A n c] ∧ n ≤ c ∧ MovI W W.heap.size A n F T R := by
  rcases open_slice Tryz.underlying22 h with ⟨rfl, _⟩ | ⟨a, len, cap, m, n, D, Pl, rfl, _, hl, hm, hmm, _, hx⟩
  · exact ⟨none, 0, 0, fun _ => 0, fun _ => 0, fun _ => canR 0, rfl, Nat.le_refl _, MovA.nil_ _ _ _ _ _ _, fun h => by omega⟩
  · simp only [if_true] at hmm
    have hc5 : Tryz.prog.cellsOf 47 = 5 := by kernel_rfl
    rw [hc5] at hx
    have hall : ∀ i, ∃ q : Int × Int × Value × Rw, i < len → RdR W q.2.2.1 q.2.2.2 ∧ isR q.2.2.1 ∧ ∀ t, t < 5 → W.cell? (a.add (i * 5 + t)) = (cellM q.1 q.2.1 q.2.2.1)[t]? := by
      intro i
      by_cases hi : i < len
      · obtain ⟨cs', g1, g2⟩ := hx i (by omega)
        obtain ⟨f, t, s, A, n', c, B, m', d, r, rfl, hr⟩ := open_moveC g2
        obtain ⟨_, _, g3⟩ := World.cells?_some g1
        exact ⟨(f, t, rv s A n' c B m' d, r), fun _ => ⟨hr, isR_rv _ _ _ _ _ _ _, fun t ht => by
          have := g3 t ht
          rw [addr_add_add] at this
          exact this⟩⟩
      · exact ⟨(0, 0, .nilIface, canR 0), fun h => absurd h hi⟩
    obtain ⟨f, hf⟩ := Classical.axiomOfChoice hall
    refine ⟨some a, len, cap, fun i => (f i).1, fun i => (f i).2.1, fun i => (f i).2.2.2, rfl, hl, ⟨fun i => (f i).2.2.1, fun k hk => RdS.of_in (hf k hk).1, ⟨cellsM_length fun k hk => (hf k hk).2.1, fun hn => ?_⟩⟩, fun hn b hb => ?_⟩
    all_goals
      have h0 := (hf 0 hn).2.2 0 (by omega)
      simp only [Nat.zero_mul, Nat.add_zero] at h0
      replace h0 : W.cell? (a.add 0) = some (.int .i64 (f 0).1) := h0
      obtain ⟨b1, off, rfl⟩ := spot_none h0
      rw [addr_add] at h0
    · refine ⟨b1, off, rfl, lt_of_cell h0, fun j u hu => ?_⟩
      have hj : j < len * 5 := by
        have := (List.getElem?_eq_some_iff.1 hu).1
        rwa [cellsM_length fun k hk => (hf k hk).2.1] at this
      have hk : j / 5 < len := by omega
      obtain ⟨s1, A1, n1, c1, B1, m1, d1, e1⟩ := (hf _ hk).2.1
      obtain ⟨g0, g1, g2, g3, g4⟩ := cellsM_get (F := fun i => (f i).1) (T := fun i => (f i).2.1) (V := fun i => (f i).2.2.1) (fun k hk => (hf k hk).2.1) hk e1
      have ht := (hf _ hk).2.2 (j % 5) (Nat.mod_lt _ (by omega))
      rw [e1] at ht
      have e : j = j / 5 * 5 + j % 5 := by omega
      rw [← e, addr_add] at ht
      rw [ht]
      rcases (show j % 5 = 0 ∨ j % 5 = 1 ∨ j % 5 = 2 ∨ j % 5 = 3 ∨ j % 5 = 4 by omega) with h3 | h3 | h3 | h3 | h3 <;> rw [h3] at e ⊢ <;> rw [e] at hu
      · rw [Nat.add_zero, g0] at hu; exact hu
      · rw [g1] at hu; exact hu
      · rw [g2] at hu; exact hu
      · rw [g3] at hu; exact hu
      · rw [g4] at hu; exact hu
    · injection hb with hb
      subst hb
      exact lt_of_cell h0
theorem open_boolsC {fuel : Nat} {cs : List Value} {x : DataW H × List MemPlace} (h : DataW.trod enc Tryz.prog W 0 (fun _ => true) true fuel 23 cs = some x) :
    ∃ A n c D, cs = [.slice A n c] ∧ n ≤ c ∧ Rds W W.heap.size 1 A n (bools n D) ∧ BlkIn (fun b => b < W.heap.size) A n := by
  rcases open_bools Tryz.underlying23 Tryz.underlying4 (by kernel_rfl) h with ⟨rfl, _⟩ | ⟨a, len, cap, B, rfl, _, hl, hm, _, hx⟩
  · exact ⟨none, 0, 0, fun _ => false, rfl, Nat.le_refl _, Rds.nil_ _ _ _ _, fun h => by omega⟩
  · refine ⟨some a, len, cap, B, rfl, hl, ⟨by rw [bools_length, Nat.mul_one], fun hn => ?_⟩, fun hn b hb => ?_⟩
    all_goals
      have h0 := hx 0 (by omega)
      obtain ⟨b1, off, rfl⟩ := spot_none h0
      rw [addr_add] at h0
    · refine ⟨b1, off, rfl, lt_of_cell h0, fun j u hu => ?_⟩
      have hj : j < len := by
        have := (List.getElem?_eq_some_iff.1 hu).1
        rwa [bools_length] at this
      rw [bools_get hj] at hu
      have := hx j (by omega)
      rw [addr_add] at this
      rw [this]; exact hu
    · injection hb with hb
      subst hb
      exact lt_of_cell h0
theorem open_chainE {v : Value} {d : DataW H} {p : List MemPlace} (hv : Value.okWide Tryz.prog W .any base 25 v) (h : DataW.Trod enc Tryz.prog W 0 (fun _ => true) true 25 v d p) :
    ∃ AM cm AD cd c, v = cv c.st c.sr AM c.nm cm AD c.nd cd ∧ ChI W W.heap.size AM cm AD cd c := by
  obtain ⟨v0, v1, v2, v3, y0, y1, y2, y3, n, rfl, _, _, h0, h1, h2, h3⟩ := open_agg4 Tryz.underlying25 (by kernel_rfl) (by kernel_rfl) hv h
  obtain ⟨st, e0, _, _⟩ := DataW.trod_int Tryz.underlying3 h0
  obtain ⟨sr, e1, _, _⟩ := DataW.trod_int Tryz.underlying3 h1
  obtain ⟨AM, nm, cm, F, T, R, e2, hcm, hM⟩ := open_movesC h2
  obtain ⟨AD, nd, cd, D, e3, hcd, hD, hDb⟩ := open_boolsC h3
  simp at e0 e1 e2 e3
  subst e0 e1 e2 e3
  exact ⟨AM, cm, AD, cd, ⟨st, sr, nm, F, T, R, nd, D⟩, rfl, hM, hD, hDb, hcm, hcd⟩
end
end Go.Proofs.YtglpknhcneggeaaGreatDoor
namespace Go.Proofs.YtglpknhcneggeaaGreatDoor
set_option linter.unusedSimpArgs false
open Go.ChangeShapes Go.WideShapes Go.ChangeAt Go.RowKit Go.Joins Go.Deep
set_option maxRecDepth 100000
set_option linter.unusedVariables false
/-! ## an int or a byte out of what a statement is handed -/
section
variable {H : Type} {enc : TypeId × Value → H} {W : World} {base : Nat}
theorem open_i64E {v : Value} {d : DataW H} {p : List MemPlace} (hv : Value.okWide Tryz.prog W .any base 3 v) (h : DataW.Trod enc Tryz.prog W 0 (fun _ => true) true 3 v d p) :
    ∃ x : Int, v = .int .i64 x ∧ IntKind.i64.wrap x = x := by
  obtain ⟨x, rfl, _, _, w⟩ := open_int Tryz.underlying3 hv h
  refine ⟨x, rfl, ?_⟩
  have h : -9223372036854775808 ≤ x ∧ x ≤ 9223372036854775807 := by simpa [Lit.wf, IntKind.min, IntKind.max, IntKind.signed, IntKind.bits] using w
  rw [IntKind.wrap_i64]
  omega
theorem byte_of {x : Int} (w : (Lit.int .u8 x).wf = true) : ∃ p : Nat, x = (p : Int) ∧ p < 256 := by
  have h : 0 ≤ x ∧ x ≤ 255 := by simpa [Lit.wf, IntKind.min, IntKind.max, IntKind.signed, IntKind.bits] using w
  exact ⟨x.toNat, by omega, by omega⟩
theorem open_u8E {v : Value} {d : DataW H} {p : List MemPlace} (hv : Value.okWide Tryz.prog W .any base 5 v) (h : DataW.Trod enc Tryz.prog W 0 (fun _ => true) true 5 v d p) :
    ∃ x : Nat, v = .int .u8 (x : Int) ∧ x < 256 := by
  obtain ⟨x, rfl, _, _, w⟩ := open_int Tryz.underlying5 hv h
  obtain ⟨a, rfl, ha⟩ := byte_of w
  exact ⟨a, rfl, ha⟩
end
end Go.Proofs.YtglpknhcneggeaaGreatDoor
