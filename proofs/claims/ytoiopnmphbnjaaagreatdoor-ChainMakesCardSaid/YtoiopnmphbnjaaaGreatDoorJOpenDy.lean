/- Contracts and lemmas for the given statements. Conditions: those alone that each names. -/
import Derived.Test.YtoiopnmphbnjaaaGreatDoorJLinO
import Derived.Test.YtoiopnmphbnjaaaGreatDoorJChX
import Derived.Deep.Grids
import Derived.Test.YtoiopnmphbnjaaaGreatDoorJDynKey
import Derived.Test.YtoiopnmphbnjaaaGreatDoorRows
import Derived.Stop.LaidErr
import Derived.LaidSub
import Derived.LaidMore
namespace Go.Proofs.YtoiopnmphbnjaaaGreatDoor
set_option linter.unusedSimpArgs false
open Go.ChangeShapes Go.WideShapes Go.ChangeAt Go.RowKit Go.Joins Go.Deep
set_option maxRecDepth 100000
set_option linter.unusedVariables false
/-! ## a dynamic tree out of what a statement is handed -/
section
variable {H : Type} {enc : TypeId × Value → H} {W : World} {base : Nat}
theorem open_argsC {fuel : Nat} {cs : List Value} {x : DataW H × List MemPlace} (h : DataW.trod enc Tryz.prog W 0 (fun _ => true) true fuel 43 cs = some x) :
   ∃ A c l, cs = [.slice A (List.length l) c] ∧ l.length ≤ c ∧ Rds W W.heap.size 1 A l.length (zsD l) := by
 rcases open_ints Tryz.underlying43 Tryz.underlying3 (by kernel_rfl) h with ⟨rfl, _⟩ | ⟨a, len, cap, zs, rfl, _, hl, hm, hz, _, hc, hw⟩
 · exact ⟨none, 0, [], rfl, Nat.le_refl _, Rds.nil_ _ _ _ _⟩
 · simp only [if_true] at hz
   have hlen : (zs.take len).length = len := by rw [List.length_take]; omega
   refine ⟨some a, cap, zs.take len, by rw [hlen], by omega, by rw [zsD_length, Nat.mul_one], fun hn => ?_⟩
   rw [hlen] at hn
   have hcell : ∀ j, j < len → W.cell? (a.add j) = some (.int .i64 (zs.getD j 0)) := fun j hj => hc j (by omega)
   have h0 := hcell 0 (by omega)
   obtain ⟨b, off, rfl⟩ := spot_none h0
   refine ⟨b, off, rfl, ?_, fun j u hu => ?_⟩
   · rw [addr_add] at h0; exact lt_of_cell h0
   · have hj : j < len := by
       have := (List.getElem?_eq_some_iff.1 hu).1
       rwa [zsD_length, hlen] at this
     have hjz : j < zs.length := by omega
     rw [zsD_get (by rw [hlen]; exact hj)] at hu
     have h1 := hcell j hj
     rw [addr_add] at h1
     rw [h1, ← hu, List.getD_eq_getElem?_getD, List.getElem?_eq_getElem hjz]
     simp
theorem open_gateC {fuel : Nat} {cs : List Value} {x : DataW H × List MemPlace} (h : DataW.trod enc Tryz.prog W 0 (fun _ => true) true fuel 88 cs = some x) :
   ∃ (kd kk : Int) (A : Option Addr) (c : Nat) (l : List Int) (U : Value) (r : Rw), cs = gateC kd kk A l.length c U ∧ isR U ∧ l.length ≤ c ∧ Rds W W.heap.size 1 A l.length (zsD l) ∧ RdR W U r := by
 obtain ⟨y0, y1, y2, y3, n, _, hl, h0, h1, h2, h3⟩ := trod_struct4 Tryz.underlying88 h
 have hc6 : Tryz.prog.cellsOf 88 = 6 := by kernel_rfl
 have hc1 : Tryz.prog.cellsOf 3 = 1 := by kernel_rfl
 have hcs : Tryz.prog.cellsOf 43 = 1 := by kernel_rfl
 have hc3 : Tryz.prog.cellsOf 56 = 3 := by kernel_rfl
 rw [hc6] at hl
 match cs, hl with
 | [v0, v1, v2, v3, v4, v5], _ =>
   simp only [hc1, hc3, hcs, List.drop, List.take] at h0 h1 h2 h3
   obtain ⟨kd, e0, _, _⟩ := DataW.trod_int Tryz.underlying3 h0
   obtain ⟨kk, e1, _, _⟩ := DataW.trod_int Tryz.underlying3 h1
   obtain ⟨A, c, l, e2, hlc, hR⟩ := open_argsC h2
   obtain ⟨s, A', n', c', B, m, d, r, e3, hr⟩ := open_ratC h3
   simp at e0 e1 e2 e3
   obtain ⟨rfl, rfl, rfl⟩ := e3
   subst e0 e1 e2
   exact ⟨kd, kk, A, c, l, rv s A' n' c' B m d, r, rfl, isR_rv _ _ _ _ _ _ _, hlc, hR, hr⟩
/-- the gates, by functions -/
theorem open_gatesC {fuel : Nat} {cs : List Value} {x : DataW H × List MemPlace} (h : DataW.trod enc Tryz.prog W 0 (fun _ => true) true fuel 22 cs = some x) :
   ∃ (A : Option Addr) (n c : Nat) (kd kk : Nat → Int) (ar : Nat → List Int) (dor : Nat → Rw), cs = [.slice A n c] ∧ n ≤ c ∧ n ≤ maxLen ∧
     ∀ r : DyR, r.ng = n → r.kd = kd → r.kk = kk → r.ar = ar → r.dor = dor → ∃ V U, Rds W W.heap.size 6 A n (gatesC r V U n) ∧ ∀ k, k < n → Rds W W.heap.size 1 (V k).1 (r.ar k).length (zsD (r.ar k)) ∧ RdS W W.heap.size (U k) (r.dor k) ∧ (r.ar k).length ≤ (V k).2 := by
 rcases open_slice Tryz.underlying22 h with ⟨rfl, _⟩ | ⟨a, len, cap, m, n, D, Pl, rfl, _, hl, hm, hmm, _, hx⟩
 · exact ⟨none, 0, 0, fun _ => 0, fun _ => 0, fun _ => [], fun _ => canR 0, rfl, Nat.le_refl _, Nat.zero_le _, fun r _ _ _ _ _ => ⟨fun _ => (none, 0), fun _ => .nilIface, Rds.nil_ _ _ _ _, fun k hk => absurd hk (Nat.not_lt_zero _)⟩⟩
 · simp only [if_true] at hmm
   have hc6 : Tryz.prog.cellsOf 88 = 6 := by kernel_rfl
   rw [hc6] at hx
   have hall : ∀ i, ∃ q : (Int × Int × List Int × Rw) × (Option Addr × Nat) × Value, i < len → isR q.2.2 ∧ q.1.2.2.1.length ≤ q.2.1.2 ∧ Rds W W.heap.size 1 q.2.1.1 q.1.2.2.1.length (zsD q.1.2.2.1) ∧ RdR W q.2.2 q.1.2.2.2 ∧ ∀ t, t < 6 → W.cell? (a.add (i * 6 + t)) = (gateC q.1.1 q.1.2.1 q.2.1.1 q.1.2.2.1.length q.2.1.2 q.2.2)[t]? := by
     intro i
     by_cases hi : i < len
     · obtain ⟨cs', g1, g2⟩ := hx i (by omega)
       obtain ⟨kd, kk, A, c, l, U, r, rfl, hU, hlc, hR, hr⟩ := open_gateC g2
       obtain ⟨_, _, g3⟩ := World.cells?_some g1
       exact ⟨((kd, kk, l, r), (A, c), U), fun _ => ⟨hU, hlc, hR, hr, fun t ht => by
         have := g3 t ht
         rw [addr_add_add] at this
         exact this⟩⟩
     · exact ⟨((0, 0, [], canR 0), (none, 0), .nilIface), fun h => absurd h hi⟩
   obtain ⟨f, hf⟩ := Classical.axiomOfChoice hall
   refine ⟨some a, len, cap, fun i => (f i).1.1, fun i => (f i).1.2.1, fun i => (f i).1.2.2.1, fun i => (f i).1.2.2.2, rfl, hl, by omega, fun r e0 e1 e2 e3 e4 => ⟨fun i => (f i).2.1, fun i => (f i).2.2, ⟨gatesC_length fun k hk => (hf k hk).1, fun hn => ?_⟩, fun k hk => ?_⟩⟩
   · have h0 := (hf 0 hn).2.2.2.2 0 (by omega)
     simp only [Nat.zero_mul, Nat.add_zero] at h0
     replace h0 : W.cell? (a.add 0) = some (.int .i64 (f 0).1.1) := h0
     obtain ⟨b1, off, rfl⟩ := spot_none h0
     rw [addr_add] at h0
     refine ⟨b1, off, rfl, lt_of_cell h0, fun j u hu => ?_⟩
     have hj : j < len * 6 := by
       have := (List.getElem?_eq_some_iff.1 hu).1
       rwa [gatesC_length fun k hk => (hf k hk).1] at this
     have hk : j / 6 < len := by omega
     obtain ⟨s1, A1, n1, c1, B1, m1, d1, e⟩ := (hf _ hk).1
     obtain ⟨g0, g1, g2, g3, g4, g5⟩ := gatesC_get (r := r) (V := fun i => (f i).2.1) (U := fun i => (f i).2.2) e (fun k hk => (hf k hk).1) hk
     rw [e1] at g0
     rw [e2] at g1
     rw [e3] at g2
     have ht := (hf _ hk).2.2.2.2 (j % 6) (Nat.mod_lt _ (by omega))
     rw [e] at ht
     have ej : j = j / 6 * 6 + j % 6 := by omega
     rw [← ej, addr_add] at ht
     rw [ht]
     rcases (show j % 6 = 0 ∨ j % 6 = 1 ∨ j % 6 = 2 ∨ j % 6 = 3 ∨ j % 6 = 4 ∨ j % 6 = 5 by omega) with h3 | h3 | h3 | h3 | h3 | h3 <;> rw [h3] at ej ⊢ <;> rw [ej] at hu
     · rw [Nat.add_zero, g0] at hu; exact hu
     · rw [g1] at hu; exact hu
     · rw [g2] at hu; exact hu
     · rw [g3] at hu; exact hu
     · rw [g4] at hu; exact hu
     · rw [g5] at hu; exact hu
   · rw [e3, e4]
     obtain ⟨h1, h2, h3, h4, h5⟩ := hf k hk
     exact ⟨h3, RdS.of_in h4, h2⟩
theorem open_dynE {v : Value} {d : DataW H} {p : List MemPlace} (hv : Value.okWide Tryz.prog W .any base 25 v) (h : DataW.Trod enc Tryz.prog W 0 (fun _ => true) true 25 v d p) :
   ∃ AG cg AF cf AR cr r, v = dyv r AG cg AF cf AR cr ∧ DyI W AG AF AR r ∧ r.ng ≤ maxLen := by
 obtain ⟨cs, rfl, hsz⟩ := okWide_struct Tryz.underlying25 hv
 obtain ⟨fuel, hf⟩ := h
 obtain ⟨xs, n, _, _, hl, hlen, hg⟩ := DataW.trod_struct Tryz.underlying25 hf
 have hc5 : Tryz.prog.cellsOf 25 = 5 := by kernel_rfl
 have hc1 : Tryz.prog.cellsOf 3 = 1 := by kernel_rfl
 have hcg : Tryz.prog.cellsOf 22 = 1 := by kernel_rfl
 have hcr : Tryz.prog.cellsOf 23 = 1 := by kernel_rfl
 rw [hc5] at hsz
 obtain ⟨l⟩ := cs
 match l, hsz, xs, hlen with
 | [v0, v1, v2, v3, v4], _, [y0, y1, y2, y3, y4], _ =>
   have h0 := hg 0 _ rfl
   have h1 := hg 1 _ rfl
   have h2 := hg 2 _ rfl
   have h3 := hg 3 _ rfl
   have h4 := hg 4 _ rfl
   simp [hc1, hcg, hcr, Value.cells] at h0 h1 h2 h3 h4
   obtain ⟨vv, e0, _, _⟩ := DataW.trod_int Tryz.underlying3 h0
   obtain ⟨AG, ng, cg, kd, kk, ar, dor, e1, _, hmx, hga⟩ := open_gatesC h1
   obtain ⟨top, e2, _, _⟩ := DataW.trod_int Tryz.underlying3 h2
   obtain ⟨AF, nf, cf, fl, e3, _, hF⟩ := open_rowC h3
   obtain ⟨AR, nr, cr, rp, e4, _, hR⟩ := open_rowC h4
   simp at e0 e1 e2 e3 e4
   subst e0 e1 e2 e3 e4
   exact ⟨AG, cg, AF, cf, AR, cr, ⟨vv, ng, kd, kk, ar, dor, top, nf, fl, nr, rp⟩, rfl, ⟨hga _ rfl rfl rfl rfl rfl, hF.ra, hR.ra⟩, hmx⟩
end
end Go.Proofs.YtoiopnmphbnjaaaGreatDoor
namespace Go.Proofs.YtoiopnmphbnjaaaGreatDoor
set_option linter.unusedVariables false
set_option linter.unusedSimpArgs false
open Go.RowKit
/-! ## what the row's listed table gives -/
theorem gPow : ∃ g, Tryz.prog.globalNamed "internal/strconv.uint64pow10" = some g ∧ (Tryz.prog.globals[g]?).map (·.type) = some 206 := by
 first
   | (refine ⟨0, ?_, ?_⟩ <;> (kernel_rfl; done))
   | (refine ⟨1, ?_, ?_⟩ <;> (kernel_rfl; done))
   | (refine ⟨2, ?_, ?_⟩ <;> (kernel_rfl; done))
   | (refine ⟨3, ?_, ?_⟩ <;> (kernel_rfl; done))
   | (refine ⟨4, ?_, ?_⟩ <;> (kernel_rfl; done))
   | (refine ⟨5, ?_, ?_⟩ <;> (kernel_rfl; done))
theorem tabW_of {W : World} {a b : String × DataW Unit} (h : laidMet Tryz.prog [a, b, ("internal/strconv.uint64pow10", Lib.tabData .u64 Lib.pow10Tab)] W) : TabW W := by
 obtain ⟨g, h1, h2⟩ := gPow
 exact Lib.tabIs_of_head h1 h2 Tryz.underlying206 Tryz.underlying158 (by kernel_rfl) (by kernel_rfl) h.tail.tail
theorem tabW_row {W : World} {l : List (String × DataW Unit)} (hl : l = Rows.chainSumsRow.laid) (h : laidMetH Tryz.prog l W) : TabW W := by
 subst hl
 rw [MakeChecks.laidMetH_plain _ _ _ (by kernel_rfl)] at h
 exact tabW_of h
end Go.Proofs.YtoiopnmphbnjaaaGreatDoor
