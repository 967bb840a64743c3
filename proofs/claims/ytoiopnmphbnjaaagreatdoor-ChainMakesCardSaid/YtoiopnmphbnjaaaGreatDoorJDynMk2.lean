/- Contracts and lemmas for the given statements. Conditions: those alone that each names. -/
import Derived.Test.YtoiopnmphbnjaaaGreatDoorJMapR
import Derived.Test.YtoiopnmphbnjaaaGreatDoorJDynW8
import Derived.Test.YtoiopnmphbnjaaaGreatDoorJBase
namespace Go.Proofs.YtoiopnmphbnjaaaGreatDoor
open Go.RowKit
open Go.Maps Go.WideMaps
set_option linter.unusedSimpArgs false
set_option linter.unusedVariables false
set_option maxRecDepth 20000
attribute [local irreducible] nv wp win plainB validR valR canR
/-! ## the maker's own blocks, what a call leaves -/
def mkV (r : DyR) (AG : Option Addr) (cg : Nat) (AF : Option Addr) (cf : Nat) (AR : Option Addr) (cr : Nat) (As : Option Addr) (n cs bn br : Nat) : Array Value := #[.int .i64 r.v, .slice AG r.ng cg, .int .i64 r.top, .slice AF r.nf cf, .slice AR r.nr cr, .slice As n cs, .map (some bn), .map (some br)]
/-- the maker's own blocks -/
structure MB where
 b0 : Nat
 m : Nat
 bn : Nat
 br : Nat
 r : DyR
 AG : Option Addr
 cg : Nat
 AF : Option Addr
 cf : Nat
 AR : Option Addr
 cr : Nat
def MB.vs (K : MB) (As : Option Addr) (n cs : Nat) : Array Value := mkV K.r K.AG K.cg K.AF K.cf K.AR K.cr As n cs K.bn K.br
structure MKI (w : World) (K : MB) (N : Nat) (l : List DS) (G : Nat → Nat → Rat) (As : Option Addr) (cs : Nat) : Prop where
 bm : K.b0 ≤ K.m
 bb : K.b0 ≤ K.bn
 bc : K.b0 ≤ K.br
 nn : K.bn ≠ K.br
 lo : K.b0 ≤ w.heap.size
 blk : w.heap[K.m]? = some (.cells (K.vs As l.length cs) 96 (0, 0))
 st : OwS w K.b0 As cs K.r.ng l
 num : ∃ D, w.ownsMap Tryz.prog 9 (plainElem Tryz.prog 3) K.bn l.length D ∧ NumD D l
 rat : ∃ D, OwMr w K.br N D ∧ RatD w K.b0 D l.length G
/-- what may have been written: the maker, its maps, rows of states -/
structure Kw (K : MB) (w w' : World) : Prop where
 os : w'.os = w.os
 tape : w'.tape = w.tape
 output : w'.output = w.output
 size : w.heap.size ≤ w'.heap.size
 block : ∀ k, k < w.heap.size → (k < K.b0 ∨ k ≠ K.m ∧ k ≠ K.bn ∧ k ≠ K.br ∧ ¬ TyB 45 w k) → w'.heap[k]? = w.heap[k]?
section
variable {w w' w1 : World} {K : MB} {N N' cs : Nat} {l : List DS} {G : Nat → Nat → Rat} {As : Option Addr} {r : Option Nat}
theorem outK_set {o i : Nat} {cs : Array Value} {t : TypeId} {fz : Nat × Nat} {u : Value} (h : w.heap[o]? = some (.cells cs t fz)) : (w.setCell ⟨o, i, none⟩ u).heap[o]? = some (.cells (cs.setIfInBounds i u) t fz) := by
 simp [World.setCell, Array.getElem?_modify, h]
theorem grownBy_setK (w : World) (o i : Nat) (u : Value) : w.grownBy (w.setCell ⟨o, i, none⟩ u) (some o) := ⟨rfl, rfl, rfl, by simp, fun k hk hk2 => Below.heap_setCell w ⟨o, i, none⟩ u k (fun e => hk2 (by rw [e]))⟩
theorem Kw.trans (h : Kw K w w1) (k : Kw K w1 w') : Kw K w w' :=
 ⟨k.os.trans h.os, k.tape.trans h.tape, k.output.trans h.output, Nat.le_trans h.size k.size, fun i hi hw => by
   have e := h.block i hi hw
   refine (k.block i (Nat.lt_of_lt_of_le hi h.size) ?_).trans e
   rcases hw with hw | ⟨h1, h2, h3, h4⟩
   · exact .inl hw
   · refine .inr ⟨h1, h2, h3, fun ⟨cur, fz, h5⟩ => h4 ⟨cur, fz, e ▸ h5⟩⟩⟩
theorem Kw.of_below (h : Below w.heap.size w w') : Kw K w w' := ⟨h.os, h.tape, h.output, h.size, fun i hi _ => h.block i hi⟩
theorem Kw.of_grown (h : w.grownBy w' r) (hr : ∀ k, r = some k → K.b0 ≤ k ∧ (k = K.m ∨ k = K.bn ∨ k = K.br ∨ TyB 45 w k)) : Kw K w w' :=
 ⟨h.os, h.tape, h.output, h.size, fun i hi hw => h.block i hi fun e => by
   obtain ⟨h1, h2⟩ := hr i e.symm
   rcases hw with hw | ⟨g1, g2, g3, g4⟩
   · omega
   · rcases h2 with h2 | h2 | h2 | h2
     · exact g1 h2
     · exact g2 h2
     · exact g3 h2
     · exact g4 h2⟩
theorem Kw.below (h : Kw K w w') {b : Nat} (hb : b ≤ K.b0) (hs : K.b0 ≤ w.heap.size) : Below b w w' := ⟨h.os, h.tape, h.output, h.size, fun i hi => h.block i (by omega) (.inl (by omega))⟩
theorem Kw.cell (h : Kw K w w') {b o : Nat} {t : TypeId} (ht : TyB t w b) (h1 : b ≠ K.m) (h2 : t ≠ 45) (h3 : b ≠ K.bn) (h4 : b ≠ K.br) : w'.cell? ⟨b, o, none⟩ = w.cell? ⟨b, o, none⟩ ∧ w'.frozen? ⟨b, o, none⟩ = w.frozen? ⟨b, o, none⟩ ∧ TyB t w' b := by
 obtain ⟨cur, fz, hc⟩ := ht
 have hlt : b < w.heap.size := (Array.getElem?_eq_some_iff.1 hc).1
 have e := h.block b hlt (.inr ⟨h1, h3, h4, fun ⟨cur', fz', h5⟩ => by
   rw [hc] at h5
   injection h5 with h5
   injection h5 with _ h5 _
   exact h2 h5⟩)
 refine ⟨World.cell?_of_block (a := ⟨b, o, none⟩) e, ?_, ⟨cur, fz, e.trans hc⟩⟩
 unfold World.frozen?
 rw [show w'.heap[(⟨b, o, none⟩ : Addr).block]? = w.heap[(⟨b, o, none⟩ : Addr).block]? from e]
theorem MKI.mty (h : MKI w K N l G As cs) : TyB 96 w K.m := ⟨_, _, h.blk⟩
theorem MKI.mlt (h : MKI w K N l G As cs) : K.m < w.heap.size := (Array.getElem?_eq_some_iff.1 h.blk).1
theorem MKI.bnm (h : MKI w K N l G As cs) : ∃ es c, w.heap[K.bn]? = some (.map es c) := by
 obtain ⟨D, ⟨es, clock, hb, _⟩, _⟩ := h.num
 exact ⟨es, clock, hb⟩
theorem MKI.brm (h : MKI w K N l G As cs) : ∃ es c, w.heap[K.br]? = some (.map es c) := by
 obtain ⟨D, ⟨es, clock, hb, _⟩, _⟩ := h.rat
 exact ⟨es, clock, hb⟩
theorem map_not_ty {t : TypeId} {b : Nat} (h : ∃ es c, w.heap[b]? = some (.map es c)) (ht : TyB t w b) : False := by
 obtain ⟨es, c, h⟩ := h
 obtain ⟨cur, fz, h2⟩ := ht
 rw [h] at h2
 cases h2
theorem ty_one {t ty : TypeId} {b : Nat} (h : TyB t w b) (h2 : TyB ty w b) : t = ty := by
 obtain ⟨cur, fz, h⟩ := h
 obtain ⟨cur', fz', h2⟩ := h2
 rw [h] at h2
 injection h2 with h2
 injection h2 with _ h2 _
theorem MKI.cells (h : MKI w K N l G As cs) : w.cell? ⟨K.m, 0, none⟩ = some (.int .i64 K.r.v) ∧ w.cell? ⟨K.m, 1, none⟩ = some (.slice K.AG K.r.ng K.cg) ∧ w.cell? ⟨K.m, 2, none⟩ = some (.int .i64 K.r.top) ∧ w.cell? ⟨K.m, 3, none⟩ = some (.slice K.AF K.r.nf K.cf) ∧ w.cell? ⟨K.m, 4, none⟩ = some (.slice K.AR K.r.nr K.cr)
   ∧ w.cell? ⟨K.m, 5, none⟩ = some (.slice As l.length cs) ∧ w.cell? ⟨K.m, 6, none⟩ = some (.map (some K.bn)) ∧ w.cell? ⟨K.m, 7, none⟩ = some (.map (some K.br)) := by
 have hb := h.blk
 refine ⟨?_, ?_, ?_, ?_, ?_, ?_, ?_, ?_⟩ <;> rw [cell_of_row w K.m _ _ _ _ hb] <;> rfl
theorem MKI.more (h : MKI w K N l G As cs) (hN : N ≤ N') : MKI w K N' l G As cs := by
 obtain ⟨D, h1, h2⟩ := h.rat
 exact { h with rat := ⟨D, World.ownsMap.mono h1 hN, h2⟩ }
theorem MKI.congr {G' : Nat → Nat → Rat} (h : MKI w K N l G As cs) (e : ∀ a b, a ≠ b → G a b = G' a b) : MKI w K N l G' As cs := by
 obtain ⟨D, h1, h2⟩ := h.rat
 exact { h with rat := ⟨D, h1, h2.congr e⟩ }
/-- the world goes on: calls, draws, new blocks, blocks of other kinds -/
theorem MKI.grown (h : MKI w K N l G As cs) (hg : w.grownBy w' r) (hr : NotI w K.b0 r) (h1 : ∀ k, r = some k → k ≠ K.m ∧ k ≠ K.bn ∧ k ≠ K.br ∧ ¬ TyB 45 w k) : MKI w' K N l G As cs := by
 have hm : some K.m ≠ r := fun e => (h1 _ e.symm).1 rfl
 have hn : some K.bn ≠ r := fun e => (h1 _ e.symm).2.1 rfl
 have hr2 : some K.br ≠ r := fun e => (h1 _ e.symm).2.2.1 rfl
 obtain ⟨D, d1, d2⟩ := h.num
 obtain ⟨E, e1, e2⟩ := h.rat
 exact ⟨h.bm, h.bb, h.bc, h.nn, Nat.le_trans h.lo hg.size, (hg.block K.m h.mlt hm).trans h.blk, h.st.grown hg hr fun k e => (h1 k e).2.2.2, ⟨D, d1.kept hg hn, d2⟩, ⟨E, World.ownsMap.kept e1 hg hr2, e2.kp (Kp.notI hg hr)⟩⟩
theorem MKI.below (h : MKI w K N l G As cs) (hb : Below w.heap.size w w') : MKI w' K N l G As cs := h.grown (grown_none hb none) (NotI.none_ _ _) fun k e => by cases e
/-- a state has been added: its number, then the row, then the maker's slice -/
theorem MKI.add {w2 w3 : World} {D' : DataW Value} {S : DS} {g cap : Nat} (h : MKI w K N l G As cs) (hS : S ∉ l)
   (hg1 : w.grownBy w1 (some K.bn)) (hm1 : w1.ownsMap Tryz.prog 9 (plainElem Tryz.prog 3) K.bn (l.length + 1) D') (hD : NumD D' (l ++ [S])) (hb2 : Below w1.heap.size w1 w2)
   (hg3 : w2.grownBy w3 (Value.slice As l.length cs).ownBlock) (hs3 : OwS w3 K.b0 (some ⟨g, 0, none⟩) cap K.r.ng (l ++ [S])) :
   MKI (w3.setCell ⟨K.m, 5, none⟩ (.slice (some ⟨g, 0, none⟩) (l.length + 1) cap)) K N (l ++ [S]) G (some ⟨g, 0, none⟩) cap ∧ Kw K w (w3.setCell ⟨K.m, 5, none⟩ (.slice (some ⟨g, 0, none⟩) (l.length + 1) cap)) := by
 have hbn := h.bnm
 have hbr := h.brm
 have hmt := h.mty
 have hn0 : NotI w K.b0 (some K.bn) := by obtain ⟨es, c, e⟩ := hbn; exact NotI.of_map e h.bb
 have nm : K.m ≠ K.bn := fun e => map_not_ty hbn (e ▸ hmt)
 have nr : K.m ≠ K.br := fun e => map_not_ty hbr (e ▸ hmt)
 have hst1 : OwS w1 K.b0 As cs K.r.ng l := h.st.grown hg1 hn0 fun k e ht => by injection e with e; subst e; exact map_not_ty hbn ht
 have hblk1 : w1.heap[K.m]? = _ := (hg1.block K.m h.mlt (fun e => nm (by injection e))).trans h.blk
 obtain ⟨E, e1, e2⟩ := h.rat
 have er1 : OwMr w1 K.br N E := World.ownsMap.kept e1 hg1 (fun e => h.nn (by injection e with e; exact e.symm))
 have ed1 : RatD w1 K.b0 E l.length G := e2.kp (Kp.notI hg1 hn0)
 have hlo1 : K.b0 ≤ w1.heap.size := Nat.le_trans h.lo hg1.size
 have hst2 : OwS w2 K.b0 As cs K.r.ng l := hst1.below hb2
 have hlt1 : K.m < w1.heap.size := (Array.getElem?_eq_some_iff.1 hblk1).1
 have hblk2 : w2.heap[K.m]? = _ := (hb2.block K.m hlt1).trans hblk1
 have em2 : w2.ownsMap Tryz.prog 9 (plainElem Tryz.prog 3) K.bn (l.length + 1) D' := hm1.kept (grown_none hb2 none) (by simp)
 have er2 : OwMr w2 K.br N E := World.ownsMap.kept er1 (grown_none hb2 none) (by simp)
 have ed2 : RatD w2 K.b0 E l.length G := ed1.kp (Kp.of_below hb2)
 have hn2 := hst2.notI
 have hty2 : ∀ k, (Value.slice As l.length cs).ownBlock = some k → K.b0 ≤ k ∧ TyB 45 w2 k := fun k hk => by
   obtain ⟨V, _, h2⟩ := hst2
   obtain ⟨hb, cur, hc⟩ := oT h2 k hk
   exact ⟨hb, cur, _, hc⟩
 have nm2 : some K.m ≠ (Value.slice As l.length cs).ownBlock := fun e => absurd (ty_one ⟨_, _, hblk2⟩ (hty2 _ e.symm).2) (by decide)
 have bn2 : ∃ es c, w2.heap[K.bn]? = some (.map es c) := by
   obtain ⟨es, clock, hb, _⟩ := em2
   exact ⟨es, clock, hb⟩
 have br2 : ∃ es c, w2.heap[K.br]? = some (.map es c) := by
   obtain ⟨es, clock, hb, _⟩ := er2
   exact ⟨es, clock, hb⟩
 have hblk3 : w3.heap[K.m]? = _ := (hg3.block K.m (Array.getElem?_eq_some_iff.1 hblk2).1 nm2).trans hblk2
 have em3 : w3.ownsMap Tryz.prog 9 (plainElem Tryz.prog 3) K.bn (l.length + 1) D' := em2.kept hg3 fun e => map_not_ty bn2 (hty2 _ e.symm).2
 have er3 : OwMr w3 K.br N E := World.ownsMap.kept er2 hg3 fun e => map_not_ty br2 (hty2 _ e.symm).2
 have ed3 : RatD w3 K.b0 E l.length G := ed2.kp (Kp.notI hg3 hn2)
 have hg4 := grownBy_setK w3 K.m 5 (.slice (some ⟨g, 0, none⟩) (l.length + 1) cap)
 have hn4 : NotI w3 K.b0 (some K.m) := NotI.of_ty ⟨_, _, hblk3⟩ h.bm (by decide) (by decide)
 have hblk4 : (w3.setCell ⟨K.m, 5, none⟩ (.slice (some ⟨g, 0, none⟩) (l.length + 1) cap)).heap[K.m]? = some (.cells (K.vs (some ⟨g, 0, none⟩) (l.length + 1) cap) 96 (0, 0)) := by
   have := outK_set (i := 5) (u := .slice (some ⟨g, 0, none⟩) (l.length + 1) cap) hblk3
   exact this
 have hz3 := hg3.size
 have hz2 := hb2.size
 have hl1 : (l ++ [S]).length = l.length + 1 := by simp
 refine ⟨⟨h.bm, h.bb, h.bc, h.nn, by show K.b0 ≤ _; simp; omega, by rw [hl1]; exact hblk4, hs3.grown hg4 hn4 (fun k e ht => ?_), ⟨D', by rw [hl1]; exact em3.kept hg4 (fun e => nm (by injection e with e; exact e.symm)), hD⟩, ⟨E, World.ownsMap.kept er3 hg4 (fun e => nr (by injection e with e; exact e.symm)), (ed3.kp (Kp.notI hg4 hn4)).more (by omega)⟩⟩, ?_⟩
 · injection e with e
   subst e
   exact absurd (ty_one ⟨_, _, hblk3⟩ ht) (by decide)
 · refine ((Kw.of_grown hg1 fun k e => ?_).trans (Kw.of_below hb2)).trans ((Kw.of_grown hg3 fun k e => ⟨(hty2 k e).1, .inr (.inr (.inr (hty2 k e).2))⟩).trans (Kw.of_grown hg4 fun k e => ?_))
   · injection e with e
     exact ⟨by rw [← e]; exact h.bb, .inr (.inl e.symm)⟩
   · injection e with e
     exact ⟨by rw [← e]; exact h.bm, .inl e.symm⟩
end
end Go.Proofs.YtoiopnmphbnjaaaGreatDoor
namespace Go.Proofs.YtoiopnmphbnjaaaGreatDoor
open Go.RowKit
set_option linter.unusedSimpArgs false
set_option linter.unusedVariables false
set_option maxRecDepth 20000
/-! ## the state that settles is a state -/
theorem onD_mem {d : Dy} {F : Nat} {old : List Int} {k : Nat} : ∀ {i : Nat}, k < i → (onD d F old i).2.getD k 0 = dyMem (d.kd k) ((d.ar k).map (onD d F old k).1) (old.getD k 0)
 | i + 1, h => by
   show ((onD d F old i).2 ++ [_]).getD k 0 = _
   rw [getD_snoc (onD_len _ _ _ _) _ k h]
   by_cases e : k = i
   · subst e; rw [if_pos rfl]
   · rw [if_neg e]; exact onD_mem (by omega)
theorem seD_form (d : Dy) (old : List Int) : ∀ (n F : Nat), ∃ G, (seD d old n F).2 = (onD d G old d.ng).2
 | 0, F => ⟨F, rfl⟩
 | n + 1, F => by
   rw [seD]
   split
   · exact ⟨F, rfl⟩
   · exact seD_form d old n _
theorem StOk.setl {r : DyR} {F : Nat} {M : List Int} (ok : DyOk r) (hF : F < 2 ^ r.v.toNat) (h6 : ∀ i, i < r.ng → r.kd i = 6 → 0 ≤ M.getD i 0 ∧ M.getD i 0 ≤ 1) : StOk r (setl r.dy F M).1 (setl r.dy F M).2 := by
 have hl := setl_lt (d := r.dy) (F := F) (old := M) ok.dok hF
 refine ⟨hl.1, hl.2, fun i hi => ?_⟩
 obtain ⟨G, hG⟩ := seD_form r.dy M (2 ^ r.dy.v) F
 have e : (Proofs.YtoiopnmphbnjaaaGreatDoor.setl r.dy F M).2.getD i 0 = dyMem (r.kd i).toNat (((r.ar i).map Int.toNat).map (onD r.dy G M i).1) (M.getD i 0) := by
   show (seD r.dy M (2 ^ r.dy.v) F).2.getD i 0 = _
   rw [hG]
   exact onD_mem hi
 rw [e]
 have hk := (ok.gate hi).hkd
 obtain ⟨r6, r7, r0⟩ := dyMem_range (r.kd i).toNat (((r.ar i).map Int.toNat).map (onD r.dy G M i).1) (M.getD i 0) (fun h => h6 i hi (by omega))
 refine ⟨fun h => r6 (by omega), fun h => ?_, fun a b => r0 (by omega) (by omega)⟩
 have := r7 (by omega)
 simpa using this
theorem zero_getD (n i : Nat) : (List.replicate n (0 : Int)).getD i 0 = 0 := by
 rw [List.getD_eq_getElem?_getD, List.getElem?_replicate]
 split <;> simp
theorem StOk.o7 {r : DyR} {F : Nat} {M : List Int} (st : StOk r F M) (i : Nat) (hi : i < r.ng) (h : r.kd i = 7) : M.getD i 0 < (r.ar i).length := ((st.m i hi).k7 h).2
end Go.Proofs.YtoiopnmphbnjaaaGreatDoor
namespace Go.Proofs.YtoiopnmphbnjaaaGreatDoor
set_option linter.unusedSimpArgs false
set_option linter.unusedVariables false
/-! ## the steps of the chain's maker (plain) -/
/-- one event's failure or repair -/
def step1 (x : RS) (S : DS) (q : Rat) : Option RS := if 0 < q then stepR x (S, q) else some x
theorem step1_0 {x : RS} {S : DS} {q : Rat} (h : ¬ 0 < q) : step1 x S q = some x := by unfold step1; rw [if_neg h]
theorem step1_p {x : RS} {S : DS} {q : Rat} (h : 0 < q) : step1 x S q = stepR x (S, q) := by unfold step1; rw [if_pos h]
theorem rowR_step1 (x : RS) (S : DS) (q : Rat) : rowR (if 0 < q then [(S, q)] else []) x = step1 x S q := by
 unfold step1
 split
 · show (stepR x (S, q)).bind (rowR []) = _
   cases stepR x (S, q) <;> rfl
 · rfl
theorem Tr.nx_succ (t : Tr) (s : DS) (i : Nat) (y : RS) : rowR (t.nx s (i + 1)) y = (rowR (t.nx s i) y).bind fun x => (step1 x (stF t.d s i) (t.fr s i)).bind fun z => step1 z (stR t.d s i) (t.rr s i) := by
 rw [Tr.nx, rowR_app]
 cases rowR (t.nx s i) y with
 | none => rfl
 | some x =>
   show rowR (_ ++ _) x = (step1 x _ _).bind _
   rw [rowR_app, rowR_step1]
   cases step1 x (stF t.d s i) (t.fr s i) with
   | none => rfl
   | some z => exact rowR_step1 z _ _
theorem Tr.nx_none {t : Tr} {s : DS} {y : RS} {i : Nat} (h : rowR (t.nx s i) y = none) : ∀ {n : Nat}, i ≤ n → rowR (t.nx s n) y = none
 | 0, hn => by rw [show i = 0 by omega] at h; exact h
 | n + 1, hn => by
   by_cases e : i = n + 1
   · rw [← e]; exact h
   · rw [Tr.nx_succ, Tr.nx_none h (n := n) (by omega)]; rfl
theorem Tr.nx_len (t : Tr) (s : DS) : ∀ i, (t.nx s i).length ≤ 2 * i
 | 0 => Nat.le_refl _
 | i + 1 => by
   have ih := Tr.nx_len t s i
   rw [Tr.nx, List.length_append, List.length_append]
   split <;> split <;> simp <;> omega
theorem Tr.nx_mem {t : Tr} {s : DS} {y : DS × Rat} : ∀ {n : Nat}, y ∈ t.nx s n → ∃ i, i < n ∧ ((y = (stF t.d s i, t.fr s i) ∧ 0 < t.fr s i) ∨ (y = (stR t.d s i, t.rr s i) ∧ 0 < t.rr s i))
 | n + 1, h => by
   rw [Tr.nx, List.mem_append, List.mem_append] at h
   rcases h with h | h | h
   · obtain ⟨i, hi, h⟩ := Tr.nx_mem h
     exact ⟨i, by omega, h⟩
   · split at h
     · rename_i h1
       simp only [List.mem_singleton] at h
       exact ⟨n, by omega, .inl ⟨h, h1⟩⟩
     · simp at h
   · split at h
     · rename_i h1
       simp only [List.mem_singleton] at h
       exact ⟨n, by omega, .inr ⟨h, h1⟩⟩
     · simp at h
/-- rates are short and not below 0 -/
theorem rtD_nn {d : Dy} {dor : Nat → Rat} {s : DS} {i : Nat} {f0 : Rat} (h0 : 0 ≤ f0) (h : ∀ k, k < d.ng → d.kd k = 7 → 0 ≤ dor k) : ∀ k, k ≤ d.ng → 0 ≤ rtD d dor s i f0 k
 | 0, _ => h0
 | k + 1, hk => by
   have ih := rtD_nn (s := s) (i := i) h0 h k (by omega)
   rw [rtD]
   split
   · rename_i h1
     exact Rat.mul_nonneg ih (h k (by omega) h1.1)
   · exact ih
theorem rtD_szP {d : Dy} {dor : Nat → Rat} {s : DS} {i : Nat} {f0 : Rat} {L : Nat} (hL : 1 ≤ L) (h0 : Sz L f0) (h : ∀ k, k < d.ng → Sz L (dor k)) : ∀ k, k ≤ d.ng → Sz (L * (k + 1)) (rtD d dor s i f0 k)
 | 0, _ => by rw [Nat.zero_add, Nat.mul_one]; exact h0
 | k + 1, hk => by
   have ih := rtD_szP (s := s) (i := i) hL h0 h k (by omega)
   rw [rtD]
   have e : L * (k + 1 + 1) = L * (k + 1) + L := by rw [Nat.mul_add L (k + 1) 1, Nat.mul_one]
   split
   · rw [e]
     exact ih.mul (h k (by omega)) (Nat.le_trans hL (Nat.le_mul_of_pos_right _ (by omega)))
   · exact ih.more (by omega)
theorem sz_one1 {L : Nat} (hL : 1 ≤ L) : Sz L 1 := Sz.more (L := 1) ⟨show (1 : Rat).num.natAbs < wp 1 by decide, show (1 : Rat).den < wp 1 by decide⟩ hL
structure TrS (r : DyR) : Prop where
 fn : ∀ i, i < r.v.toNat → 0 ≤ valR (r.fl i)
 rn : ∀ i, i < r.v.toNat → 0 ≤ valR (r.rp i)
 dn : ∀ k, k < r.ng → r.kd k = 7 → 0 ≤ valR (r.dor k)
 fz : ∀ i, i < r.v.toNat → Sz 1000 (valR (r.fl i))
 rz : ∀ i, i < r.v.toNat → Sz 1000 (valR (r.rp i))
 dz : ∀ k, k < r.ng → Sz 1000 (valR (r.dor k))
section
variable {r : DyR} {s : DS} {i : Nat}
theorem TrS.fr (h : TrS r) (h64 : r.ng ≤ 64) (hi : i < r.v.toNat) : 0 ≤ r.tr.fr s i ∧ Sz 70000 (r.tr.fr s i) := by
 unfold Tr.fr
 split
 · exact ⟨Rat.le_refl, Sz.zero (by omega)⟩
 · refine ⟨rtD_nn (h.fn i hi) (fun k hk hk7 => h.dn k hk (by
     have hk7 : (r.kd k).toNat = 7 := hk7
     omega)) _ (Nat.le_refl _), (rtD_szP (L := 1000) (by omega) (h.fz i hi) (fun k hk => h.dz k hk) _ (Nat.le_refl _)).more ?_⟩
   show 1000 * (r.ng + 1) ≤ 70000
   omega
theorem TrS.rr (h : TrS r) (hi : i < r.v.toNat) : 0 ≤ r.tr.rr s i ∧ Sz 70000 (r.tr.rr s i) := by
 unfold Tr.rr
 split
 · split
   · exact ⟨Rat.le_refl, Sz.zero (by omega)⟩
   · exact ⟨h.rn i hi, (h.rz i hi).more (by omega)⟩
 · exact ⟨Rat.le_refl, Sz.zero (by omega)⟩
theorem Tr.fr_no {t : Tr} (h : s.1.testBit i = true) : t.fr s i = 0 := by unfold Tr.fr; rw [if_pos h]
theorem Tr.rr_no {t : Tr} (h : s.1.testBit i = false) : t.rr s i = 0 := by unfold Tr.rr; rw [if_neg (by rw [h]; decide)]
theorem Tr.rr_held {t : Tr} (h : heldD t.d s i = true) : t.rr s i = 0 := by
 unfold Tr.rr
 split
 · rfl
 · rfl
/-- the states that follow are states -/
theorem StOk.stF (ok : DyOk r) (h : StOk r s.1 s.2) (hi : i < r.v.toNat) : StOk r (stF r.dy s i).1 (stF r.dy s i).2 := by
 refine StOk.setl ok (Nat.or_lt_two_pow h.f (Nat.pow_lt_pow_right (by omega) hi)) fun j hj hk => ?_
 have := (h.m j hj).k6 hk
 exact this
theorem StOk.stR (ok : DyOk r) (h : StOk r s.1 s.2) : StOk r (stR r.dy s i).1 (stR r.dy s i).2 := by
 refine StOk.setl ok (ndiff_lt h.f) fun j hj hk => ?_
 have := (h.m j hj).k6 hk
 exact this
theorem start_ok (ok : DyOk r) : StOk r (setl r.dy 0 (List.replicate r.ng 0)).1 (setl r.dy 0 (List.replicate r.ng 0)).2 :=
 StOk.setl ok (Nat.two_pow_pos _) fun j hj hk => by
   rw [zero_getD]
   omega
theorem nx_ok (ok : DyOk r) (hs : TrS r) (h : StOk r s.1 s.2) {n : Nat} (hn : n ≤ r.v.toNat) : ∀ y, y ∈ r.tr.nx s n → 0 < y.2 ∧ Sz 70000 y.2 ∧ StOk r y.1.1 y.1.2 := fun y hy => by
 obtain ⟨i, hi, h1 | h1⟩ := Tr.nx_mem hy
 · rw [h1.1]
   exact ⟨h1.2, (hs.fr ok.ng (by omega)).2, h.stF ok (by omega)⟩
 · rw [h1.1]
   exact ⟨h1.2, (hs.rr (by omega)).2, h.stR ok⟩
end
/-- while the events of state k are gone through -/
structure InI (r : DyR) (k i : Nat) (s : DS) (l : List DS) (x : RS) : Prop where
 hk : k < l.length
 hs : l[k]? = some s
 iv : i ≤ r.v.toNat
 e : rowR (r.tr.nx s i) (l, fun _ => 0) = some x
 rs : RsI 70000 l (r.tr.nx s i) x
/-- .. behind the failure -/
structure InJ (r : DyR) (k i : Nat) (s : DS) (l : List DS) (x z : RS) : Prop where
 e : step1 x (stF r.dy s i) (r.tr.fr s i) = some z
 rs : ∃ ys, RsI 70000 l ys z ∧ ys.length ≤ 2 * i + 1
section
variable {r : DyR} {k i : Nat} {s : DS} {l : List DS} {x z u : RS}
theorem InI.start (hk : k < l.length) (hs : l[k]? = some s) (nd : l.Nodup) (le : l.length ≤ 256) : InI r k 0 s l (l, fun _ => 0) := ⟨hk, hs, Nat.zero_le _, rfl, RsI.start nd le⟩
theorem InI.fail (h : InI r k i s l x) (ok : DyOk r) (hs : TrS r) (hi : i < r.v.toNat) (e : step1 x (stF r.dy s i) (r.tr.fr s i) = some z) : InJ r k i s l x z := by
 refine ⟨e, ?_⟩
 have hl := Tr.nx_len r.tr s i
 unfold step1 at e
 split at e
 · rename_i hp
   exact ⟨_, h.rs.step hp (hs.fr ok.ng hi).2 e, by rw [List.length_append, List.length_singleton]; omega⟩
 · injection e with e
   subst e
   exact ⟨_, h.rs, by omega⟩
theorem InI.next (h : InI r k i s l x) (ok : DyOk r) (hs : TrS r) (st : StOk r s.1 s.2) (hi : i < r.v.toNat) (e : step1 x (stF r.dy s i) (r.tr.fr s i) = some z) (e2 : step1 z (stR r.dy s i) (r.tr.rr s i) = some u) : InI r k (i + 1) s l u := by
 have e3 : rowR (r.tr.nx s (i + 1)) (l, fun _ => 0) = some u := by
   rw [Tr.nx_succ, h.e]
   show (step1 x (stF r.dy s i) (r.tr.fr s i)).bind _ = _
   rw [e]
   exact e2
 have e4 := (RsI.start (L := 70000) (l0 := l) (by
   obtain ⟨m, hm⟩ := h.rs.pre
   have := h.rs.nd
   rw [← hm] at this
   exact (List.nodup_append.1 this).1) (Nat.le_trans h.rs.pre.length_le h.rs.le)).all (fun y hy => by
     have := nx_ok ok hs st (n := i + 1) (by omega) y hy
     exact ⟨this.1, this.2.1⟩) e3
 exact ⟨h.hk, h.hs, by omega, e3, by simpa using e4⟩
theorem rs_xs {L : Nat} {ys : List (DS × Rat)} (h : RsI 70000 l ys x) (hy : ys.length ≤ 100) (b : Nat) : 0 ≤ x.2 b ∧ Sz 100000000 (x.2 b) := by
 refine ⟨h.nn b, (h.sz b).more ?_⟩
 have h3 : ys.length * (70000 + 1) ≤ 100 * (70000 + 1) := Nat.mul_le_mul_right _ hy
 exact Nat.le_trans (Nat.succ_le_succ h3) (by decide)
theorem InI.xs (h : InI r k i s l x) (h24 : r.v ≤ 24) (b : Nat) : 0 ≤ x.2 b ∧ Sz 100000000 (x.2 b) := by
 have h1 := Tr.nx_len r.tr s i
 have h2 := h.iv
 exact rs_xs (L := 0) h.rs (by omega) b
theorem InJ.xs (h : InJ r k i s l x z) (hi : i ≤ 24) (b : Nat) : 0 ≤ z.2 b ∧ Sz 100000000 (z.2 b) := by
 obtain ⟨ys, h1, h2⟩ := h.rs
 exact rs_xs (L := 0) h1 (by omega) b
theorem InI.none1 (h : InI r k i s l x) (hi : i < r.v.toNat) (e : step1 x (stF r.dy s i) (r.tr.fr s i) = none) : rowR (r.tr.nx s r.v.toNat) (l, fun _ => 0) = none := by
 refine Tr.nx_none (i := i + 1) ?_ (by omega)
 rw [Tr.nx_succ, h.e]
 show (step1 x (stF r.dy s i) (r.tr.fr s i)).bind _ = _
 rw [e]; rfl
theorem InI.none2 (h : InI r k i s l x) (hi : i < r.v.toNat) (e : step1 x (stF r.dy s i) (r.tr.fr s i) = some z) (e2 : step1 z (stR r.dy s i) (r.tr.rr s i) = none) : rowR (r.tr.nx s r.v.toNat) (l, fun _ => 0) = none := by
 refine Tr.nx_none (i := i + 1) ?_ (by omega)
 rw [Tr.nx_succ, h.e]
 show (step1 x (stF r.dy s i) (r.tr.fr s i)).bind _ = _
 rw [e]
 exact e2
end
end Go.Proofs.YtoiopnmphbnjaaaGreatDoor
