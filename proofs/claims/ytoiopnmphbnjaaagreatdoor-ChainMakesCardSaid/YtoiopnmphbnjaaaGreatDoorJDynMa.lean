/- Contracts and lemmas for the given statements. Conditions: those alone that each names. -/
import Derived.Test.YtoiopnmphbnjaaaGreatDoorJDynMove
import Derived.Test.YtoiopnmphbnjaaaGreatDoorJShelfS
import Derived.Test.YtoiopnmphbnjaaaGreatDoorJChX
import Derived.Test.YtoiopnmphbnjaaaGreatDoorJDynW16
import Derived.Test.YtoiopnmphbnjaaaGreatDoorJLinRow
import Derived.Test.YtoiopnmphbnjaaaGreatDoorRowB
namespace Go.Proofs.YtoiopnmphbnjaaaGreatDoor
open Go.RowKit
open Go.Maps Go.WideMaps
set_option linter.unusedSimpArgs false
set_option linter.unusedVariables false
set_option maxRecDepth 20000
attribute [local irreducible] nv wp win plainB validR valR canR kyL
/-! ## chain.Make: what holds between its steps -/
theorem own_blkK {w w' : World} {b0 s n : Nat} {e : TypeId} {v : Value} {xs : List Value} (h : w.ownsRow b0 e s v n xs) (hb : ∀ k, v.ownBlock = some k → w'.heap[k]? = w.heap[k]?) : w'.ownsRow b0 e s v n xs := by
 refine ⟨h.1, ?_⟩
 rcases h.2 with h1 | ⟨g, cap, cur, e1, h2, h3, h4⟩
 · exact .inl h1
 · refine .inr ⟨g, cap, cur, e1, h2, ?_, h4⟩
   rw [hb g (by rw [e1]; rfl)]
   exact h3
/-- the zero chain, as an object -/
def chO (st : Int) (AM : Option Addr) (nm cm : Nat) (AD : Option Addr) (nd cd : Nat) : Obj := .cells #[.int .i64 st, .int .i64 0, .slice AM nm cm, .slice AD nd cd] 32 (0, 0)
section
variable {w w' w0 : World} {K : MB} {N cs b0 : Nat} {l : List DS} {G : Nat → Nat → Rat} {As : Option Addr}
theorem MKI.keep (h : MKI w K N l G As cs) (hw : Kw K w w') {b : Nat} {cur : Array Value} {t : TypeId} {fz : Nat × Nat} (hb : w.heap[b]? = some (.cells cur t fz)) (h1 : t ≠ 96) (h2 : t ≠ 45) : w'.heap[b]? = some (.cells cur t fz) := by
 have ht : TyB t w b := ⟨_, _, hb⟩
 refine (hw.block b (Array.getElem?_eq_some_iff.1 hb).1 (.inr ⟨fun e => ?_, fun e => ?_, fun e => ?_, fun e => h2 (ty_one ht e)⟩)).trans hb
 · subst e; exact h1 (ty_one ht h.mty)
 · subst e; exact map_not_ty h.bnm ht
 · subst e; exact map_not_ty h.brm ht
theorem MKI.keepRow (h : MKI w K N l G As cs) (hw : Kw K w w') {s n : Nat} {e : TypeId} {v : Value} {xs : List Value} (hr : w.ownsRow b0 e s v n xs) (h1 : e ≠ 96) (h2 : e ≠ 45) : w'.ownsRow b0 e s v n xs :=
 own_blkK hr fun k hk => by
   obtain ⟨_, cur, hc⟩ := oT hr k hk
   exact (h.keep hw hc h1 h2).trans hc.symm
/-- the maker at its start -/
theorem MKI.made {w w3 : World} {r : DyR} {AG AF AR : Option Addr} {cg cf cr : Nat} (hw3 : w3 = ((w.alloc (.map #[] 0)).alloc (.map #[] 0)).alloc (.cells #[.int .i64 r.v, .slice AG r.ng cg, .int .i64 r.top, .slice AF r.nf cf, .slice AR r.nr cr, .slice none 0 0, .map (some w.heap.size), .map (some (w.heap.size + 1))] 96)) (hb : b0 ≤ w.heap.size) :
   MKI w3 ⟨b0, w.heap.size + 2, w.heap.size, w.heap.size + 1, r, AG, cg, AF, cf, AR, cr⟩ 0 [] (fun _ _ => 0) none 0 := by
 have hm : ∀ {k : TypeId} {R : Value → Option (DataW Value × List MemPlace)}, (w.alloc (.map #[] 0)).ownsMap Tryz.prog k R w.heap.size 0 (.map []) := fun {k R} => World.ownsMap_made w Tryz.prog k R
 have hm2 : ∀ {k : TypeId} {R : Value → Option (DataW Value × List MemPlace)}, ((w.alloc (.map #[] 0)).alloc (.map #[] 0)).ownsMap Tryz.prog k R (w.heap.size + 1) 0 (.map []) := fun {k R} => by
   have := World.ownsMap_made (w.alloc (.map #[] 0)) Tryz.prog k R
   simpa using this
 subst hw3
 refine ⟨by show b0 ≤ w.heap.size + 2; omega, hb, by show b0 ≤ w.heap.size + 1; omega, by show w.heap.size ≠ w.heap.size + 1; omega, by simp; omega, ?_, ⟨fun _ => .nilIface, fun k hk => absurd hk (Nat.not_lt_zero _), own_nil _ _ _ _⟩, ⟨.map [], (hm.alloc _).alloc _, NumD.nil_⟩, ⟨.map [], hm2.alloc _, RatD.nil_ _ _ _⟩⟩
 have := heap_alloc_new ((w.alloc (.map #[] 0)).alloc (.map #[] 0)) (.cells #[.int .i64 r.v, .slice AG r.ng cg, .int .i64 r.top, .slice AF r.nf cf, .slice AR r.nr cr, .slice none 0 0, .map (some w.heap.size), .map (some (w.heap.size + 1))] 96)
 have e : ((w.alloc (.map #[] 0)).alloc (.map #[] 0)).heap.size = w.heap.size + 2 := by simp
 rw [e] at this
 exact this
/-- the boxes of Make, the chain so far -/
structure MkF (w0 w : World) (K : MB) (c k cd : Nat) (AD : Option Addr) (Dn : Nat → Bool) : Prop where
 bel : Below w0.heap.size w0 w
 lo : w0.heap.size + 2 ≤ c
 eb : K.b0 = w0.heap.size
 b1 : w.heap[w0.heap.size]? = some (.cells #[.int .i64 K.r.v, .slice K.AG K.r.ng K.cg, .int .i64 K.r.top, .slice K.AF K.r.nf K.cf, .slice K.AR K.r.nr K.cr] 25 (0, 0))
 b2 : w.heap[w0.heap.size + 1]? = some (chO 0 none 0 0 none 0 0)
 bc : w.heap[c]? = some (chO 0 none 0 0 AD k cd)
 dn : OwVb w K.b0 AD cd k Dn
section
variable {c k cd : Nat} {AD : Option Addr} {Dn : Nat → Bool}
theorem MkF.kw (h : MkF w0 w K c k cd AD Dn) (hm : MKI w K N l G As cs) (hw : Kw K w w') : MkF w0 w' K c k cd AD Dn :=
 ⟨h.bel.trans (hw.below (by rw [h.eb]; exact Nat.le_refl _) hm.lo), h.lo, h.eb, hm.keep hw h.b1 (by decide) (by decide), hm.keep hw h.b2 (by decide) (by decide), hm.keep hw h.bc (by decide) (by decide), hm.keepRow hw h.dn (by decide) (by decide)⟩
theorem MkF.below (h : MkF w0 w K c k cd AD Dn) (hb : Below w.heap.size w w') : MkF w0 w' K c k cd AD Dn :=
 ⟨h.bel.trans (hb.mono h.bel.size), h.lo, h.eb, (hb.block _ (Array.getElem?_eq_some_iff.1 h.b1).1).trans h.b1, (hb.block _ (Array.getElem?_eq_some_iff.1 h.b2).1).trans h.b2, (hb.block _ (Array.getElem?_eq_some_iff.1 h.bc).1).trans h.bc, h.dn.below hb⟩
theorem MkF.c1 (h : MkF w0 w K c k cd AD Dn) : w.cell? ⟨w0.heap.size, 0, none⟩ = some (.int .i64 K.r.v) ∧ w.cell? ⟨w0.heap.size, 1, none⟩ = some (.slice K.AG K.r.ng K.cg) ∧ w.cell? ⟨w0.heap.size, 2, none⟩ = some (.int .i64 K.r.top) ∧ w.cell? ⟨w0.heap.size, 3, none⟩ = some (.slice K.AF K.r.nf K.cf) ∧ w.cell? ⟨w0.heap.size, 4, none⟩ = some (.slice K.AR K.r.nr K.cr) := by
 have hb := h.b1
 refine ⟨?_, ?_, ?_, ?_, ?_⟩ <;> rw [cell_of_row w _ _ _ _ _ hb] <;> rfl
theorem chO_cells {o : Nat} {st : Int} {AM : Option Addr} {nm cm : Nat} {nd cd : Nat} (h : w.heap[o]? = some (chO st AM nm cm AD nd cd)) : w.cell? ⟨o, 0, none⟩ = some (.int .i64 st) ∧ w.cell? ⟨o, 1, none⟩ = some (.int .i64 0) ∧ w.cell? ⟨o, 2, none⟩ = some (.slice AM nm cm) ∧ w.cell? ⟨o, 3, none⟩ = some (.slice AD nd cd) ∧ (∀ i, w.frozen? ⟨o, i, none⟩ = false) := by
 have hb : w.heap[o]? = some (.cells #[.int .i64 st, .int .i64 0, .slice AM nm cm, .slice AD nd cd] 32 (0, 0)) := h
 refine ⟨?_, ?_, ?_, ?_, fun i => ?_⟩
 · rw [cell_of_row w _ _ _ _ _ hb]; rfl
 · rw [cell_of_row w _ _ _ _ _ hb]; rfl
 · rw [cell_of_row w _ _ _ _ _ hb]; rfl
 · rw [cell_of_row w _ _ _ _ _ hb]; rfl
 · simp [World.frozen?, hb]
/-- Down has grown -/
theorem MkF.push {w2 w4 : World} {Dn' : Nat → Bool} {g4 c4 : Nat} (hf : MkF w0 w K c k cd AD Dn) (hm : MKI w K N l G As cs) (hb2 : Below w.heap.size w w2) (hg : w2.grownBy w4 (Value.slice AD k cd).ownBlock) (own4 : OwVb w4 K.b0 (some ⟨g4, 0, none⟩) c4 (k + 1) Dn') :
   (MKI (w4.setCell ⟨c, 3, none⟩ (.slice (some ⟨g4, 0, none⟩) (k + 1) c4)) K N l G As cs ∧ MkF w0 (w4.setCell ⟨c, 3, none⟩ (.slice (some ⟨g4, 0, none⟩) (k + 1) c4)) K c (k + 1) c4 (some ⟨g4, 0, none⟩) Dn') ∧ w4.cell? ⟨c, 3, none⟩ = some (.slice AD k cd) ∧ w4.frozen? ⟨c, 3, none⟩ = false := by
 have hf2 := hf.below hb2
 have hm2 := hm.below hb2
 have hrow : ∀ q, (Value.slice AD k cd).ownBlock = some q → K.b0 ≤ q ∧ TyB 4 w2 q := fun q hq => by
   obtain ⟨h1, cur, h2⟩ := oT hf2.dn q hq
   exact ⟨h1, cur, _, h2⟩
 have hne : ∀ {b : Nat} {t : TypeId}, TyB t w2 b → t ≠ 4 → some b ≠ (Value.slice AD k cd).ownBlock := fun {b t} ht h e => h (ty_one ht (hrow b e.symm).2)
 have hn2 : NotI w2 K.b0 (Value.slice AD k cd).ownBlock := fun q hq => NotI.of_ty (hrow q hq).2 (hrow q hq).1 (by decide) (by decide) q rfl
 have hm4 : MKI w4 K N l G As cs := hm2.grown hg hn2 fun q hq => by
   have ht := (hrow q hq).2
   refine ⟨fun e => ?_, fun e => ?_, fun e => ?_, fun e => absurd (ty_one ht e) (by decide)⟩
   · subst e; exact absurd (ty_one ht hm2.mty) (by decide)
   · subst e; exact map_not_ty hm2.bnm ht
   · subst e; exact map_not_ty hm2.brm ht
 have b14 := (hg.block _ (Array.getElem?_eq_some_iff.1 hf2.b1).1 (hne ⟨_, _, hf2.b1⟩ (by decide))).trans hf2.b1
 have b24 := (hg.block _ (Array.getElem?_eq_some_iff.1 hf2.b2).1 (hne ⟨_, _, hf2.b2⟩ (by decide))).trans hf2.b2
 have bc4 := (hg.block _ (Array.getElem?_eq_some_iff.1 hf2.bc).1 (hne ⟨_, _, hf2.bc⟩ (by decide))).trans hf2.bc
 have hg5 := grownBy_setK w4 c 3 (.slice (some ⟨g4, 0, none⟩) (k + 1) c4)
 have htc : TyB 32 w4 c := ⟨_, _, bc4⟩
 have hlo := hf.lo
 have heb := hf.eb
 have hn5 : NotI w4 K.b0 (some c) := NotI.of_ty htc (by omega) (by decide) (by decide)
 have hc5 : ∀ q, some c = some q → q ≠ K.m ∧ q ≠ K.bn ∧ q ≠ K.br ∧ ¬ TyB 45 w4 q := fun q hq => by
   injection hq with hq
   subst hq
   refine ⟨fun e => ?_, fun e => ?_, fun e => ?_, fun e => absurd (ty_one htc e) (by decide)⟩
   · rw [e] at htc; exact absurd (ty_one htc hm4.mty) (by decide)
   · rw [e] at htc; exact map_not_ty hm4.bnm htc
   · rw [e] at htc; exact map_not_ty hm4.brm htc
 have hcc := chO_cells bc4
 refine ⟨⟨hm4.grown hg5 hn5 hc5, ?_⟩, hcc.2.2.2.1, hcc.2.2.2.2 3⟩
 have hz2 := hf2.bel.size
 refine ⟨(hf2.bel.trans ((Below.refl _ _).grown hg hz2 fun q hq => by have := (hrow q hq).1; omega)).setCell (by show w0.heap.size ≤ c; omega) _, hlo, heb, ?_, ?_, ?_, ?_⟩
 · exact (hg5.block _ (Array.getElem?_eq_some_iff.1 b14).1 (fun e => by injection e with e; omega)).trans b14
 · exact (hg5.block _ (Array.getElem?_eq_some_iff.1 b24).1 (fun e => by injection e with e; omega)).trans b24
 · have := outK_set (i := 3) (u := .slice (some ⟨g4, 0, none⟩) (k + 1) c4) bc4
   exact this
 · exact own_blkK own4 fun q hq => by
     obtain ⟨_, cur, h2⟩ := oT own4 q hq
     exact hg5.block q (Array.getElem?_eq_some_iff.1 h2).1 (fun e => by
       injection e with e
       subst e
       exact absurd (ty_one htc ⟨_, _, h2⟩) (by decide))
end
end
/-! ### the map is gone through -/
theorem wpList_next_pr {w : World} {ops : Array Oper} {rest : List Oper} {o : Oper} {a : Act} {Q : Exit → Act → World → Prop} (hg : o.guard = none) (it : Operand) (hop : o.op = Op.next it false) {b r n m b0 cnt : Nat} {D : DataW Value} {left : Lit → Bool} {G : Nat → Nat → Rat}
   (hit : a.eval it = .pointer (some ⟨r, 0, none⟩)) (h : w.ranges Tryz.prog 100 tokE b r n D left cnt) (hd : RatD w b0 D m G) (hm : m ≤ 1000000) (hl : ∀ kl, left kl = true → has D kl = true)
   (hDone : (∀ kl, left kl = false) → wpList Tryz.prog ops Q rest (a.put o.dst (.tuple #[.bool false])) w)
   (hMore : ∀ (x y : Nat) (v : Value) (w' : World) (cnt' : Nat), x < m → y < m → x ≠ y → left (pkL x y) = true → 0 < G x y → RdS w b0 v (canR (G x y)) → D.atKey (pkL x y) (.held zr) = .held v → w'.ranges Tryz.prog 100 tokE b r n D (fun z => left z && !z.sameKey (pkL x y)) cnt' → cnt' < cnt →
     w.grownBy w' (some r) → w'.heap.size = w.heap.size → (Instr.entry (.pointer (some ⟨r, 0, none⟩))).run Tryz.prog w' = .ok (.tuple #[.agg #[.int .i64 (x : Int), .int .i64 (y : Int)], v]) w' → wpList Tryz.prog ops Q rest (a.put o.dst (.tuple #[.bool true, .agg #[.int .i64 (x : Int), .int .i64 (y : Int)], v])) w') :
   wpList Tryz.prog ops Q (o :: rest) a w := by
 refine wpList_plain hg fun K' hK' => ?_
 unfold Oper.wp
 rcases h.next pairKeyed o.type with ⟨h0, hl0, hrun⟩ | ⟨key, v, kl, y, w', cnt', hkey, hlk, hv, hat, hrun, hrg, hlt, hgr, hsz, hen⟩
 · simp [execOp, hop, hit, hrun, Result.andThen]
   exact hK' _ _ (hDone hl0)
 · obtain ⟨x, z, rfl, hxz, hx, hz⟩ := hd.ky kl (hl kl hlk)
   have hk2 := pkL_key (a := x) (b := z) (by omega) (by omega)
   obtain rfl := pairKeyed.inj hkey hk2
   obtain ⟨v2, hv2, hr⟩ := hd.at_ x z (by omega) (by omega) hxz
   have e : v2 = v := by
     have h1 := hat (.held zr)
     rw [hv2] at h1
     have h2 : y = (.held v, []) := (Option.some.inj hv).symm
     rw [h2] at h1
     injection h1
   subst e
   have hpos : 0 < G x z := by
     have h1 := hl _ hlk
     rw [hd.hs x z (by omega) (by omega) hxz] at h1
     simpa using h1
   simp [execOp, hop, hit, hrun, Result.andThen]
   exact hK' _ _ (hMore x z v2 w' cnt' hx hz hxz hlk hpos hr hv2 hrg hlt hgr hsz hen)
/-- moves of a row of the call's own, by pairs -/
def OwPr (w : World) (b0 : Nat) (A : Option Addr) (c : Nat) (P : List (Nat × Nat)) (G : Nat → Nat → Rat) : Prop :=
 ∃ V : Nat × Nat → Value, (∀ p, p ∈ P → RdS w b0 (V p) (canR (G p.1 p.2))) ∧ w.ownsRow b0 65 5 (.slice A P.length c) P.length (cellsP P V)
theorem results_ctt {fn : Func} {p t u : Tmp} {ty : TypeId} (h : fn.results = #[.cell p ty, .tmp t, .tmp u]) (tmps : Array Value) (P : Program) (w : World) :
   (results fn tmps).run P w = ((asAddr (tmps.getD p undef)).run P w).andThen fun a w₁ => ((loadVar ty a).run P w₁).andThen fun v w₂ => .ok (.tuple #[v, tmps.getD t undef, tmps.getD u undef]) w₂ := by
 simp only [results, h]
 simp [Sem.run_bind, Result.andThen]
end Go.Proofs.YtoiopnmphbnjaaaGreatDoor
namespace Go.Proofs.YtoiopnmphbnjaaaGreatDoor
open Go.RowKit
open Go.Maps Go.WideMaps
set_option linter.unusedSimpArgs false
set_option linter.unusedVariables false
set_option maxRecDepth 20000
attribute [local irreducible] nv wp win plainB validR valR canR kyL
/-! ## chain.Make: the moves out of the map -/
def valD (D : DataW Value) (p : Nat × Nat) : Value := match D.atKey (pkL p.1 p.2) (.held zr) with | .held v => v | _ => zr
theorem valD_eq {D : DataW Value} {x y : Nat} {v : Value} (h : D.atKey (pkL x y) (.held zr) = .held v) : valD D (x, y) = v := by
 unfold valD
 rw [h]
theorem RatD.val {w : World} {b0 n x y : Nat} {D : DataW Value} {G : Nat → Nat → Rat} (h : RatD w b0 D n G) (hx : x ≤ 1000000) (hy : y ≤ 1000000) (hxy : x ≠ y) : RdS w b0 (valD D (x, y)) (canR (G x y)) := by
 obtain ⟨v, h1, h2⟩ := h.at_ x y hx hy hxy
 rw [valD_eq h1]
 exact h2
structure LG (w0 w : World) (K : MB) (c n cd : Nat) (AD : Option Addr) (Dn : Nat → Bool) (Ml : List (Nat × Nat)) (AM : Option Addr) (cm N : Nat) (l : List DS) (R : Nat → Nat → Rat) (As : Option Addr) (cs : Nat) (D : DataW Value) (rI : Nat) (left : Lit → Bool) (cnt : Nat) : Prop where
 mki : MKI w K N l R As cs
 bel : Below w0.heap.size w0 w
 lo : w0.heap.size + 2 ≤ c
 eb : K.b0 = w0.heap.size
 nl : n = l.length
 b2 : w.heap[w0.heap.size + 1]? = some (chO 0 none 0 0 none 0 0)
 bc : w.heap[c]? = some (chO (n : Int) AM Ml.length cm AD n cd)
 dn : OwVb w K.b0 AD cd n Dn
 mv : w.ownsRow K.b0 65 5 (.slice AM Ml.length cm) Ml.length (cellsP Ml (valD D))
 rd : RatD w K.b0 D n R
 rng : w.ranges Tryz.prog 100 tokE K.br rI N D left cnt
section
variable {w0 w w' w2 w4 : World} {K : MB} {c n cd cm N cs rI cnt : Nat} {AD AM As : Option Addr} {Dn : Nat → Bool} {Ml : List (Nat × Nat)} {l : List DS} {R : Nat → Nat → Rat} {D : DataW Value} {left : Lit → Bool} {r : Option Nat}
theorem iter_not_ty {t : TypeId} {b : Nat} (h : w.ranges Tryz.prog 100 tokE K.br b N D left cnt) (ht : TyB t w b) : False := by
 obtain ⟨es, clock, since, seen, c0, _, _, _, _, hr, _⟩ := h
 obtain ⟨cur, fz, h2⟩ := ht
 rw [hr] at h2
 cases h2
theorem iter_not_map {b : Nat} (h : w.ranges Tryz.prog 100 tokE K.br b N D left cnt) (ht : ∃ es c, w.heap[b]? = some (.map es c)) : False := by
 obtain ⟨es, clock, since, seen, c0, _, _, _, _, hr, _⟩ := h
 obtain ⟨es', c', h2⟩ := ht
 rw [hr] at h2
 cases h2
/-- a block that is no row, no box of the maker's, no map -/
theorem LG.grown (h : LG w0 w K c n cd AD Dn Ml AM cm N l R As cs D rI left cnt) (hg : w.grownBy w' r) (hr : ∀ q, r = some q → K.b0 ≤ q ∧ (∀ t, ¬ TyB t w q) ∧ (¬ ∃ es c, w.heap[q]? = some (.map es c))) {left' : Lit → Bool} {cnt' : Nat} (hrg : w'.ranges Tryz.prog 100 tokE K.br rI N D left' cnt') : LG w0 w' K c n cd AD Dn Ml AM cm N l R As cs D rI left' cnt' := by
 have hn : NotI w K.b0 r := fun q hq => ⟨(hr q hq).1, fun cur t fz hc => absurd ⟨cur, fz, hc⟩ ((hr q hq).2.1 t)⟩
 have hne : ∀ {b : Nat} {t : TypeId}, TyB t w b → some b ≠ r := fun {b t} ht e => (hr b e.symm).2.1 t ht
 have hb : ∀ {b : Nat} {cur : Array Value} {t : TypeId} {fz : Nat × Nat}, w.heap[b]? = some (.cells cur t fz) → w'.heap[b]? = some (.cells cur t fz) := fun {b cur t fz} hc => (hg.block b (Array.getElem?_eq_some_iff.1 hc).1 (hne ⟨_, _, hc⟩)).trans hc
 have hrow : ∀ {b0 s m : Nat} {e : TypeId} {v : Value} {xs : List Value}, w.ownsRow b0 e s v m xs → w'.ownsRow b0 e s v m xs := fun {b0 s m e v xs} ho => own_blkK ho fun q hq => by
   obtain ⟨_, cur, h2⟩ := oT ho q hq
   exact hg.block q (Array.getElem?_eq_some_iff.1 h2).1 (hne ⟨_, _, h2⟩)
 have heb := h.eb
 have hbz := h.bel.size
 exact ⟨h.mki.grown hg hn fun q hq => ⟨fun e => (hr q hq).2.1 _ (e ▸ h.mki.mty), fun e => (hr q hq).2.2 (e ▸ h.mki.bnm), fun e => (hr q hq).2.2 (e ▸ h.mki.brm), fun e => (hr q hq).2.1 _ e⟩,
   h.bel.trans ((Below.refl _ _).grown hg hbz fun q hq => by have := (hr q hq).1; omega), h.lo, heb, h.nl, hb h.b2, hb h.bc, hrow h.dn, hrow h.mv, h.rd.kp (Kp.notI hg hn), hrg⟩
theorem LG.below (h : LG w0 w K c n cd AD Dn Ml AM cm N l R As cs D rI left cnt) (hb : Below w.heap.size w w') : LG w0 w' K c n cd AD Dn Ml AM cm N l R As cs D rI left cnt :=
 h.grown (grown_none hb none) (fun q e => by cases e) (h.rng.kept (grown_none hb none) (by simp) (by simp))
theorem LG.iter (h : LG w0 w K c n cd AD Dn Ml AM cm N l R As cs D rI left cnt) (hlo : K.b0 ≤ rI) (hg : w.grownBy w' (some rI)) {left' : Lit → Bool} {cnt' : Nat} (hrg : w'.ranges Tryz.prog 100 tokE K.br rI N D left' cnt') : LG w0 w' K c n cd AD Dn Ml AM cm N l R As cs D rI left' cnt' :=
 h.grown hg (fun q e => by
   injection e with e
   subst e
   exact ⟨hlo, fun t ht => iter_not_ty h.rng ht, fun hm => iter_not_map h.rng hm⟩) hrg
/-- a row or a box of a kind of its own is written -/
theorem LG.kind (h : LG w0 w K c n cd AD Dn Ml AM cm N l R As cs D rI left cnt) (hg : w.grownBy w' r) {t : TypeId} (hr : ∀ q, r = some q → K.b0 ≤ q ∧ TyB t w q) (h1 : t ≠ 3) (h2 : t ≠ 157) (h3 : t ≠ 96) (h4 : t ≠ 45) :
   MKI w' K N l R As cs ∧ Below w0.heap.size w0 w' ∧ RatD w' K.b0 D n R ∧ w'.ranges Tryz.prog 100 tokE K.br rI N D left cnt := by
 have hn : NotI w K.b0 r := fun q hq => NotI.of_ty (hr q hq).2 (hr q hq).1 h1 h2 q rfl
 have heb := h.eb
 have hbz := h.bel.size
 refine ⟨h.mki.grown hg hn fun q hq => ⟨fun e => ?_, fun e => ?_, fun e => ?_, fun e => h4 (ty_one (hr q hq).2 e)⟩, h.bel.trans ((Below.refl _ _).grown hg hbz fun q hq => by have := (hr q hq).1; omega), h.rd.kp (Kp.notI hg hn), h.rng.kept hg (fun e => ?_) (fun e => ?_)⟩
 · subst e; exact h3 (ty_one (hr _ hq).2 h.mki.mty)
 · subst e; exact map_not_ty h.mki.bnm (hr _ hq).2
 · subst e; exact map_not_ty h.mki.brm (hr _ hq).2
 · exact map_not_ty h.mki.brm (hr _ e.symm).2
 · exact iter_not_ty h.rng (hr _ e.symm).2
theorem LG.push (h : LG w0 w K c n cd AD Dn Ml AM cm N l R As cs D rI left cnt) {p : Nat × Nat} {g4 c4 : Nat} (hb2 : Below w.heap.size w w2) (hg : w2.grownBy w4 (Value.slice AM Ml.length cm).ownBlock)
   (own5 : w4.ownsRow K.b0 65 5 (.slice (some ⟨g4, 0, none⟩) (Ml.length + 1) c4) (Ml.length + 1) (cellsP (Ml ++ [p]) (valD D))) :
   LG w0 (w4.setCell ⟨c, 2, none⟩ (.slice (some ⟨g4, 0, none⟩) (Ml.length + 1) c4)) K c n cd AD Dn (Ml ++ [p]) (some ⟨g4, 0, none⟩) c4 N l R As cs D rI left cnt ∧ w4.cell? ⟨c, 2, none⟩ = some (.slice AM Ml.length cm) ∧ w4.frozen? ⟨c, 2, none⟩ = false := by
 have hf2 := h.below hb2
 have hrow : ∀ q, (Value.slice AM Ml.length cm).ownBlock = some q → K.b0 ≤ q ∧ TyB 65 w2 q := fun q hq => by
   obtain ⟨h1, cur, h2⟩ := oT hf2.mv q hq
   exact ⟨h1, cur, _, h2⟩
 have hne : ∀ {b : Nat} {t : TypeId}, TyB t w2 b → t ≠ 65 → some b ≠ (Value.slice AM Ml.length cm).ownBlock := fun {b t} ht h e => h (ty_one ht (hrow b e.symm).2)
 obtain ⟨m4, bel4, rd4, rng4⟩ := hf2.kind hg hrow (by decide) (by decide) (by decide) (by decide)
 have b24 := (hg.block _ (Array.getElem?_eq_some_iff.1 hf2.b2).1 (hne ⟨_, _, hf2.b2⟩ (by decide))).trans hf2.b2
 have bc4 := (hg.block _ (Array.getElem?_eq_some_iff.1 hf2.bc).1 (hne ⟨_, _, hf2.bc⟩ (by decide))).trans hf2.bc
 have dn4 : OwVb w4 K.b0 AD cd n Dn := own_blkK hf2.dn fun q hq => by
   obtain ⟨_, cur, h2⟩ := oT hf2.dn q hq
   exact hg.block q (Array.getElem?_eq_some_iff.1 h2).1 (hne ⟨_, _, h2⟩ (by decide))
 have hg5 := grownBy_setK w4 c 2 (.slice (some ⟨g4, 0, none⟩) (Ml.length + 1) c4)
 have htc : TyB 32 w4 c := ⟨_, _, bc4⟩
 have hlo := h.lo
 have heb := h.eb
 have hr5 : ∀ q, some c = some q → K.b0 ≤ q ∧ TyB 32 w4 q := fun q hq => by
   injection hq with hq
   subst hq
   exact ⟨by omega, htc⟩
 have hcc := chO_cells bc4
 have hne5 : ∀ {b : Nat} {t : TypeId}, TyB t w4 b → t ≠ 32 → some b ≠ some c := fun {b t} ht h9 e => by
   injection e with e
   subst e
   exact h9 (ty_one ht htc)
 have hn5 : NotI w4 K.b0 (some c) := NotI.of_ty htc (by omega) (by decide) (by decide)
 have hbz := bel4.size
 refine ⟨⟨m4.grown hg5 hn5 fun q hq => ⟨fun e => ?_, fun e => ?_, fun e => ?_, fun e => absurd (ty_one (hr5 q hq).2 e) (by decide)⟩, bel4.trans ((Below.refl _ _).grown hg5 hbz fun q hq => by have := (hr5 q hq).1; omega), hlo, heb, h.nl, ?_, ?_, ?_, ?_, rd4.kp (Kp.notI hg5 hn5), rng4.kept hg5 (fun e => map_not_ty m4.brm (hr5 _ e.symm).2) (fun e => iter_not_ty rng4 (hr5 _ e.symm).2)⟩, hcc.2.2.1, hcc.2.2.2.2 2⟩
 · subst e; exact absurd (ty_one (hr5 _ hq).2 m4.mty) (by decide)
 · subst e; exact map_not_ty m4.bnm (hr5 _ hq).2
 · subst e; exact map_not_ty m4.brm (hr5 _ hq).2
 · exact (hg5.block _ (Array.getElem?_eq_some_iff.1 b24).1 (fun e => by injection e with e; omega)).trans b24
 · have := outK_set (i := 2) (u := .slice (some ⟨g4, 0, none⟩) (Ml.length + 1) c4) bc4
   rw [show (Ml ++ [p]).length = Ml.length + 1 by simp]
   exact this
 · exact own_blkK dn4 fun q hq => by
     obtain ⟨_, cur, h2⟩ := oT dn4 q hq
     exact hg5.block q (Array.getElem?_eq_some_iff.1 h2).1 (hne5 ⟨_, _, h2⟩ (by decide))
 · rw [show (Ml ++ [p]).length = Ml.length + 1 by simp]
   exact own_blkK own5 fun q hq => by
     obtain ⟨_, cur, h2⟩ := oT own5 q hq
     exact hg5.block q (Array.getElem?_eq_some_iff.1 h2).1 (hne5 ⟨_, _, h2⟩ (by decide))
end
/-- which pairs have come -/
structure Come (n : Nat) (R : Nat → Nat → Rat) (D : DataW Value) (Ml : List (Nat × Nat)) (left : Lit → Bool) : Prop where
 hl : ∀ kl, left kl = true → has D kl = true
 nd : Ml.Nodup
 ok : ∀ p, p ∈ Ml → p.1 < n ∧ p.2 < n ∧ p.1 ≠ p.2 ∧ 0 < R p.1 p.2
 all : ∀ x y, x < n → y < n → x ≠ y → 0 < R x y → left (pkL x y) = false → (x, y) ∈ Ml
 got : ∀ p, p ∈ Ml → left (pkL p.1 p.2) = false
section
variable {n : Nat} {R : Nat → Nat → Rat} {D : DataW Value} {Ml : List (Nat × Nat)} {left : Lit → Bool} {x y : Nat}
theorem Come.start {w : World} {b0 : Nat} (h : RatD w b0 D n R) (hn : n ≤ 1000000) : Come n R D [] (has D) :=
 ⟨fun _ h => h, List.nodup_nil, fun p hp => (by cases hp), fun x y hx hy hxy hp hl => by
   rw [h.hs x y (by omega) (by omega) hxy] at hl
   simp [hp] at hl, fun p hp => (by cases hp)⟩
theorem Come.next (h : Come n R D Ml left) (hn : n ≤ 1000000) (hx : x < n) (hy : y < n) (hxy : x ≠ y) (hp : 0 < R x y) (hl : left (pkL x y) = true) : Come n R D (Ml ++ [(x, y)]) (fun z => left z && !z.sameKey (pkL x y)) := by
 have hk := pkL_lit (a := x) (b := y) (by omega) (by omega)
 refine ⟨fun kl h1 => ?_, ?_, fun p h1 => ?_, fun a b ha hb hab hR h1 => ?_, fun p h1 => ?_⟩
 · simp only [Bool.and_eq_true] at h1
   exact h.hl kl h1.1
 · rw [List.nodup_append]
   refine ⟨h.nd, by simp, fun p hp q hq => ?_⟩
   simp only [List.mem_singleton] at hq
   subst hq
   intro e
   subst e
   have := h.got _ hp
   rw [hl] at this
   cases this
 · rw [List.mem_append] at h1
   rcases h1 with h1 | h1
   · exact h.ok p h1
   · simp only [List.mem_singleton] at h1
     subst h1
     exact ⟨hx, hy, hxy, hp⟩
 · by_cases h2 : left (pkL a b) = true
   · rw [h2] at h1
     simp only [Bool.true_and, Bool.not_eq_false'] at h1
     obtain ⟨e1, e2⟩ := pkL_inj (by omega) (by omega) (by omega) (by omega) (WideAt.sameKey_eq h1)
     subst e1 e2
     simp
   · exact List.mem_append_left _ (h.all a b ha hb hab hR (by simpa using h2))
 · rw [List.mem_append] at h1
   rcases h1 with h1 | h1
   · rw [h.got p h1]; rfl
   · simp only [List.mem_singleton] at h1
     subst h1
     rw [WideAt.sameKey_self hk]
     simp
theorem Come.perm (h : Come n R D Ml left) (hl : ∀ kl, left kl = false) : Ml.Perm (prs n R) := by
 rw [List.perm_ext_iff_of_nodup h.nd (prs_nodup n R)]
 intro p
 rw [mem_prs]
 exact ⟨fun hp => h.ok p hp, fun hp => h.all p.1 p.2 hp.1 hp.2.1 hp.2.2.1 hp.2.2.2 (hl _)⟩
theorem Come.len (h : Come n R D Ml left) : Ml.length ≤ n * n := by
 have h1 : Ml.length ≤ ((List.range n).flatMap fun a => (List.range n).map fun b => (a, b)).length := by
   refine List.Nodup.length_le_of_subset h.nd fun p hp => ?_
   have := h.ok p hp
   rw [List.mem_flatMap]
   exact ⟨p.1, List.mem_range.2 this.1, List.mem_map.2 ⟨p.2, List.mem_range.2 this.2.1, rfl⟩⟩
 refine Nat.le_trans h1 (Nat.le_of_eq ?_)
 rw [List.length_flatMap]
 simp only [List.length_map, List.length_range]
 have : ∀ m, ((List.range m).map fun _ => n).sum = m * n := by
   intro m
   induction m with
   | zero => simp
   | succ m ih => rw [List.range_succ, List.map_append, List.sum_append, ih, Nat.succ_mul]; simp
 exact this n
end
theorem wpList_next_lg {w0 w : World} {K : MB} {c n cd cm N cs rI cnt : Nat} {AD AM As : Option Addr} {Dn : Nat → Bool} {Ml : List (Nat × Nat)} {l : List DS} {R : Nat → Nat → Rat} {D : DataW Value} {left : Lit → Bool}
   {ops : Array Oper} {rest : List Oper} {o : Oper} {a : Act} {Q : Exit → Act → World → Prop} (hg : o.guard = none) (it : Operand) (hop : o.op = Op.next it false)
   (hit : a.eval it = .pointer (some ⟨rI, 0, none⟩)) (h : LG w0 w K c n cd AD Dn Ml AM cm N l R As cs D rI left cnt) (hlo : K.b0 ≤ rI) (hm : n ≤ 1000000) (hl : ∀ kl, left kl = true → has D kl = true)
   (hDone : (∀ kl, left kl = false) → wpList Tryz.prog ops Q rest (a.put o.dst (.tuple #[.bool false])) w)
   (hMore : ∀ (x y : Nat) (v : Value) (w' : World) (cnt' : Nat), x < n → y < n → x ≠ y → left (pkL x y) = true → 0 < R x y → valD D (x, y) = v → isR v → LG w0 w' K c n cd AD Dn Ml AM cm N l R As cs D rI (fun z => left z && !z.sameKey (pkL x y)) cnt' → cnt' < cnt →
     (Instr.entry (.pointer (some ⟨rI, 0, none⟩))).run Tryz.prog w' = .ok (.tuple #[.agg #[.int .i64 (x : Int), .int .i64 (y : Int)], v]) w' → wpList Tryz.prog ops Q rest (a.put o.dst (.tuple #[.bool true, .agg #[.int .i64 (x : Int), .int .i64 (y : Int)], v])) w') :
   wpList Tryz.prog ops Q (o :: rest) a w := by
 refine wpList_next_pr hg it hop hit h.rng h.rd hm hl hDone fun x y v w' cnt' hx hy hxy hlf hp hr hat hrg hlt hgr hsz hen => ?_
 exact hMore x y v w' cnt' hx hy hxy hlf hp (valD_eq hat) hr.isR (h.iter hlo hgr hrg) hlt hen
/-- append of a move -/
theorem wpList_appPr {w : World} {ops : Array Oper} {rest : List Oper} {o : Oper} {a : Act} {Q : Exit → Act → World → Prop} (hgd : o.guard = none) (s x : Operand)
   (ho : o.op = .call { callee := .builtin .append, args := #[s, x], argTypes := #[29, 29] })
   (b0 : Nat) (A : Option Addr) (c : Nat) (Ml : List (Nat × Nat)) (V : Nat × Nat → Value) (hs : a.eval s = .slice A Ml.length c) (hown : w.ownsRow b0 65 5 (.slice A Ml.length c) Ml.length (cellsP Ml V))
   (B : Nat) (p : Nat × Nat) (hp : isR (V p)) (hx : a.eval x = .slice (some ⟨B, 0, none⟩) 1 1) (hc : ∀ j u, (cellM (p.1 : Nat) (p.2 : Nat) (V p))[j]? = some u → w.cell? ⟨B, j, none⟩ = some u)
   (hn : Ml.length ≤ 1000000) (hbase : b0 ≤ w.heap.size)
   (h : ∀ g cap w', w'.ownsRow b0 65 5 (.slice (some ⟨g, 0, none⟩) (Ml.length + 1) cap) (Ml.length + 1) (cellsP (Ml ++ [p]) V) → w.grownBy w' (Value.slice A Ml.length c).ownBlock → wpList Tryz.prog ops Q rest (a.put o.dst (.slice (some ⟨g, 0, none⟩) (Ml.length + 1) cap)) w') : wpList Tryz.prog ops Q (o :: rest) a w := by
 obtain ⟨i0, hi0, hz0, hz1, hz2⟩ := info_parts moveInfo
 refine wpList_append_lies _ hgd s x 29 ho b0 65 i0 _ 5 72 Tryz.underlying29 hi0 hz0 hz1 hz2 rfl (by omega) _ Ml.length _ hs hown ⟨B, 0, none⟩ 1 1 (cellM (p.1 : Nat) (p.2 : Nat) (V p)) hx (cellM_len hp) ?_ ?_ (by omega) (by unfold maxLen; omega) (by omega) hbase w.heap.size rfl ?_
 · intro j u hu
   rw [addr_add, Nat.zero_add]
   exact hc j u hu
 · intro u hu
   obtain ⟨s, A, a, c, B, b, d, e⟩ := hp
   rw [e] at hu
   simp [cellM, c3] at hu
   rcases hu with rfl | rfl | rfl | rfl | rfl <;> rfl
 · intro g cap w' h1 h2 h3 h4
   refine h g cap w' ?_ h2
   rw [cellsP_app]
   have : cellsP [p] V = cellM (p.1 : Nat) (p.2 : Nat) (V p) := by simp [cellsP]
   rw [this]
   exact h1
end Go.Proofs.YtoiopnmphbnjaaaGreatDoor
namespace Go.Proofs.YtoiopnmphbnjaaaGreatDoor
open Go.RowKit
set_option linter.unusedSimpArgs false
set_option linter.unusedVariables false
set_option maxRecDepth 20000
attribute [local irreducible] nv wp win plainB validR valR canR
/-! ## chain.Reach -/
/-- the marks in memory -/
def memB (w : World) (g : Nat) (i : Nat) : Bool := match w.cell? ⟨g, i, none⟩ with | some (.bool b) => b | _ => false
end Go.Proofs.YtoiopnmphbnjaaaGreatDoor
